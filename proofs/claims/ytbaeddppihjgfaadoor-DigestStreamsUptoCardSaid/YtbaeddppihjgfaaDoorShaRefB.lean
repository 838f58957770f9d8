/- The walks of the reference's block and Sum. -/
import Derived.Test.YtbaeddppihjgfaaDoorShaRefW
namespace Go.Proofs.YtbaeddppihjgfaaDoor.Sg
open Go Go.RowKit Go.Proofs.YtbaeddppihjgfaaDoorW.PrintWords
set_option linter.unusedVariables false
attribute [local go_sem] u_signed i_ones i_xor i_and i_or i_not
def state8i (s : S8) : Array Value := #[.int .i64 (un s.a), .int .i64 (un s.b), .int .i64 (un s.c), .int .i64 (un s.d), .int .i64 (un s.e), .int .i64 (un s.f), .int .i64 (un s.g), .int .i64 (un s.h)]
def wordsA (m : Nat → W) : Array Value := ((List.range 64).map fun t => Value.int .i64 (un (wt m t))).toArray
def KeysAt (w : World) : Prop := ∀ j, j < 64 → w.cell? ⟨2, j, none⟩ = some (.int .i64 (un (kL.getD j 0)))
theorem KeysAt.fr {S : Nat → Prop} {w w' : World} (h : KeysAt w) (hf : Fr S w w') (hn : ¬ S 2) : KeysAt w' := fun j hj => hf.cell (h j hj) hn
def zero8i : Array Value := #[.int .i64 0, .int .i64 0, .int .i64 0, .int .i64 0, .int .i64 0, .int .i64 0, .int .i64 0, .int .i64 0]
def St8i (w : World) (g : Nat) (s : S8) : Prop := w.heap[g]? = some (.cells (state8i s) 79 (0, 0))
def WsAt (w : World) (g : Nat) (m : Nat → W) : Prop := w.heap[g]? = some (.cells (wordsA m) 80 (0, 0))
theorem block_world (w : World) (s : S8) (m : Nat → W) : ∃ W0, W0 = (((w.alloc (.cells (state8i s) 79)).alloc (.cells (wordsA m) 80)).alloc (.cells zero8i 79)).alloc (.cells (state8i s) 79) ∧
    St8i W0 w.heap.size s ∧ WsAt W0 (w.heap.size + 1) m ∧ W0.heap[w.heap.size + 2]? = some (.cells zero8i 79 (0, 0)) ∧ St8i W0 (w.heap.size + 3) s ∧ Fr No w W0 := by
  generalize h1 : w.alloc (.cells (state8i s) 79) = w1
  have f1 : Fr No w w1 := by rw [← h1]; exact (Fr.refl No w).alloc _
  have z1 : w1.heap.size = w.heap.size + 1 := by rw [← h1]; simp
  have b1 : St8i w1 w.heap.size s := by rw [← h1]; exact heap_alloc_new w _
  generalize h2 : w1.alloc (.cells (wordsA m) 80) = w2
  have f2 : Fr No w1 w2 := by rw [← h2]; exact (Fr.refl No w1).alloc _
  have z2 : w2.heap.size = w1.heap.size + 1 := by rw [← h2]; simp
  have b2 : WsAt w2 w1.heap.size m := by rw [← h2]; exact heap_alloc_new w1 _
  generalize h3 : w2.alloc (.cells zero8i 79) = w3
  have f3 : Fr No w2 w3 := by rw [← h3]; exact (Fr.refl No w2).alloc _
  have z3 : w3.heap.size = w2.heap.size + 1 := by rw [← h3]; simp
  have b3 : w3.heap[w2.heap.size]? = some (.cells zero8i 79 (0, 0)) := by rw [← h3]; exact heap_alloc_new w2 _
  generalize h4 : w3.alloc (.cells (state8i s) 79) = w4
  have f4 : Fr No w3 w4 := by rw [← h4]; exact (Fr.refl No w3).alloc _
  have z4 : w4.heap.size = w3.heap.size + 1 := by rw [← h4]; simp
  have b4 : St8i w4 w3.heap.size s := by rw [← h4]; exact heap_alloc_new w3 _
  refine ⟨w4, rfl, ((f2.then_ f3).then_ f4).heap b1 id, ?_, ?_, ?_, ((f1.then_ f2).then_ f3).then_ f4⟩
  · rw [show w.heap.size + 1 = w1.heap.size by omega]; exact (f3.then_ f4).heap b2 id
  · rw [show w.heap.size + 2 = w2.heap.size by omega]; exact f4.heap b3 id
  · rw [show w.heap.size + 3 = w3.heap.size by omega]; exact b4
theorem WsAt.cell {w : World} {g : Nat} {m : Nat → W} (h : WsAt w g m) (t : Nat) (ht : t < 64) : w.cell? ⟨g, t, none⟩ = some (.int .i64 (un (wt m t))) := by
  have hb : w.heap[g]? = some (.cells (wordsA m) 80 (0, 0)) := h
  simp [World.cell?, hb, wordsA, ht]
theorem St8i.cells {w : World} {g : Nat} {s : S8} (h : St8i w g s) : w.cell? ⟨g, 0, none⟩ = some (.int .i64 (un s.a)) ∧ w.cell? ⟨g, 1, none⟩ = some (.int .i64 (un s.b)) ∧ w.cell? ⟨g, 2, none⟩ = some (.int .i64 (un s.c)) ∧ w.cell? ⟨g, 3, none⟩ = some (.int .i64 (un s.d)) ∧ w.cell? ⟨g, 4, none⟩ = some (.int .i64 (un s.e)) ∧ w.cell? ⟨g, 5, none⟩ = some (.int .i64 (un s.f)) ∧ w.cell? ⟨g, 6, none⟩ = some (.int .i64 (un s.g)) ∧ w.cell? ⟨g, 7, none⟩ = some (.int .i64 (un s.h)) := by
  have hb : w.heap[g]? = some (.cells (state8i s) 79 (0, 0)) := h
  simp [World.cell?, hb, state8i]
theorem St8i.free {w : World} {g : Nat} {s : S8} (h : St8i w g s) (j : Nat) : w.frozen? ⟨g, j, none⟩ = false := by
  have hb : w.heap[g]? = some (.cells (state8i s) 79 (0, 0)) := h
  simp [World.frozen?, hb]
theorem ch_or (e f g : W) : e &&& f ||| ~~~e &&& g = chW e f g := by
  unfold chW
  ext i
  simp
  cases e[i] <;> simp
theorem maj_or (a b c : W) : a &&& b ||| a &&& c ||| b &&& c = majW a b c := by
  unfold majW
  ext i
  simp
  cases a[i] <;> cases b[i] <;> cases c[i] <;> rfl
theorem turnedI_calls (x : W) (n : Int) (w : World) (h1 : 1 ≤ n) (h2 : n ≤ 31) :
    Calls Tryd.prog 77 #[.int .i64 (un x), .int .i64 n] w fun e w' => e = .returned (.int .i64 (un (x >>> n.toNat ||| x <<< (32 - n.toNat)))) ∧ w' = w.drew := by
  obtain ⟨k, rfl⟩ := Int.eq_ofNat_of_zero_le (show 0 ≤ n by omega)
  exact turned_calls x k (by omega) (by omega) w
theorem St8i.cellAt {w : World} {g t : Nat} {s : S8} (h : St8i w g s) (ht : t < 8) : w.cell? ⟨g, t, none⟩ = some (.int .i64 (un (s.list.getD t 0))) := by
  have hb : w.heap[g]? = some (.cells (state8i s) 79 (0, 0)) := h
  match t, ht with
  | 0, _ => simp [World.cell?, hb, S8.list, state8i]
  | 1, _ => simp [World.cell?, hb, S8.list, state8i]
  | 2, _ => simp [World.cell?, hb, S8.list, state8i]
  | 3, _ => simp [World.cell?, hb, S8.list, state8i]
  | 4, _ => simp [World.cell?, hb, S8.list, state8i]
  | 5, _ => simp [World.cell?, hb, S8.list, state8i]
  | 6, _ => simp [World.cell?, hb, S8.list, state8i]
  | 7, _ => simp [World.cell?, hb, S8.list, state8i]
theorem St8i.tab {w : World} {g : Nat} {v : S8} (h : St8i w g v) : TabF w g 8 79 (fun j => un (v.list.getD j 0)) := h
theorem state8i_tab (v : S8) : ((List.range 8).map fun j => Value.int .i64 (un (v.list.getD j 0))).toArray = state8i v := rfl
theorem turnE (e : W) : (e >>> 6 ||| e <<< 26) ^^^ (e >>> 11 ||| e <<< 21) ^^^ (e >>> 25 ||| e <<< 7) = bigE e := by
  unfold bigE; rw [BitVec.or_comm (e >>> 6), BitVec.or_comm (e >>> 11), BitVec.or_comm (e >>> 25)]
theorem turnA (a : W) : (a >>> 2 ||| a <<< 30) ^^^ (a >>> 13 ||| a <<< 19) ^^^ (a >>> 22 ||| a <<< 10) = bigA a := by
  unfold bigA; rw [BitVec.or_comm (a >>> 2), BitVec.or_comm (a >>> 13), BitVec.or_comm (a >>> 22)]
theorem turnedI_quiet (x : W) (n : Int) (w : World) (k : Nat) (h1 : 1 ≤ n) (h2 : n ≤ 31) :
    Calls Tryd.prog 77 #[.int .i64 (un x), .int .i64 n] (w.drewN k) fun e w' => e = .returned (.int .i64 (un (x >>> n.toNat ||| x <<< (32 - n.toNat)))) ∧ ∃ m, w' = w.drewN m :=
  Calls.quiet_of ((turnedI_calls x n _ h1 h2).mono fun _ _ h => ⟨h.1, 1, h.2⟩)
set_option maxRecDepth 100000 in
set_option maxHeartbeats 4000000 in
theorem refBlock_calls (s : S8) (m : Nat → W) (w : World) (hK : KeysAt w) :
    Calls Tryd.prog 57 #[.agg (state8i s), .agg (wordsA m)] w fun e w' => e = .returned (.agg (state8i (comp s m))) ∧ Fr No w w' := by
  have HK := Aside0.mk hK
  clear hK
  obtain ⟨W0, hW0, h1, h2, h3, h4, h5⟩ := block_world w s m
  have HS := Aside0.mk h1; have HW := Aside0.mk h2; have HZ := Aside0.mk h3; have HV := Aside0.mk h4; have HF := Aside0.mk h5
  have HW0 := Aside0.mk hW0
  clear h1 h2 h3 h4 h5 hW0
  go_enter Tryd.func57, Tryd.ntmps57
  generalize hpost : Value.agg (state8i (comp s m)) = POST
  unfold state8i
  go_wp2_with fail
  have hW := HW0.out
  unfold state8i zero8i at hW
  rw [← hW]
  clear hW HW0
  go_loopw [6] (fun i wr => ∃ t : Nat, t ≤ 64 ∧ i = .int .i64 t ∧ Aside0 (St8i wr (w.heap.size + 3) (rnds s m t)) ∧ Aside0 (St8i wr w.heap.size s) ∧ Aside0 (WsAt wr (w.heap.size + 1) m) ∧ Aside0 (wr.heap[w.heap.size + 2]? = some (.cells zero8i 79 (0, 0))) ∧ Aside0 (Fr No w wr)) (fun i _ => 64 - (intOf i).toNat)
  case atStart => exact ⟨0, by omega, rfl, HV, HS, HW, HZ, HF⟩
  case round =>
    clear HS HW HZ HV HF
    obtain ⟨t, ht, rfl, HV, HS, HW, HZ, HF⟩ := hrel
    by_cases hlt : t < 64
    · generalize hv : rnds s m t = v at HV
      have HR := Aside0.mk hv
      clear hv
      obtain ⟨a, b, c, d, e, f, g, h⟩ := v
      obtain ⟨d0, d1, d2, d3, d4, d5, d6, d7⟩ := HV.out.cells
      have cw := HW.out.cell t hlt
      have ck := (HK.out.fr HF.out id) t hlt
      have hfz := HV.out.free
      generalize hx : wt m t = x at cw
      generalize hkk : kL.getD t 0 = kk at ck
      have HN : Aside0 (rnds s m (t + 1) = rnd ⟨a, b, c, d, e, f, g, h⟩ kk x) := ⟨by
        show rnd (rnds s m t) (kL.getD t 0) (wt m t) = _
        rw [HR.out, hkk, hx]⟩
      clear hx hkk HR
      simp only [] at d0 d1 d2 d3 d4 d5 d6 d7
      have ht0 : (0 : Int) ≤ (t : Int) := by omega
      have ht1 : (t : Int) < 64 := by omega
      go_wp2_with fail
      rw [ch_or, maj_or]
      go_quiet ((go_at_call 77; exact turnedI_quiet _ _ _ _ (by decide) (by decide)))
      go_wp2_with fail
      generalize hX : wrap64 (_ + un x) = X
      have HX : Aside0 (BitVec.ofInt 32 X = h + bigE e + chW e f g + kk + x) := ⟨by rw [← hX, turnE]; simp only [ofInt_wrap, ofInt_add, ofInt_un]⟩
      clear hX
      refine (turnedI_calls a 2 _ (by decide) (by decide)).mono ?_
      rintro e1 w1 ⟨rfl, rfl⟩
      go_wp2_with fail
      refine (turnedI_calls a 13 _ (by decide) (by decide)).mono ?_
      rintro e1 w1 ⟨rfl, rfl⟩
      go_wp2_with fail
      refine (turnedI_calls a 22 _ (by decide) (by decide)).mono ?_
      rintro e1 w1 ⟨rfl, rfl⟩
      go_wp2_with fail
      have e0 : BitVec.ofInt 32 (wrap64 (X + wrap64 (un ((a >>> 2 ||| a <<< 30) ^^^ (a >>> 13 ||| a <<< 19) ^^^ (a >>> 22 ||| a <<< 10)) + un (majW a b c)))) = (rnd ⟨a, b, c, d, e, f, g, h⟩ kk x).a := by
        rw [ofInt_wrap, ofInt_add, ofInt_wrap, ofInt_add, ofInt_un, ofInt_un, HX.out, turnA]; rfl
      have e4 : BitVec.ofInt 32 (wrap64 (un d + X)) = (rnd ⟨a, b, c, d, e, f, g, h⟩ kk x).e := by
        rw [ofInt_wrap, ofInt_add, ofInt_un, HX.out]; rfl
      rw [e0, e4]
      clear e0 e4
      refine ⟨⟨t + 1, by omega, by go_num, ⟨?_⟩, ⟨(((Fr.refl (fun j => j = w.heap.size + 1 + 1 + 1) wr).drewN _).set8 (.inl rfl) _ _ _ _ _ _ _ _).heap HS.out (by omega)⟩, ⟨(((Fr.refl (fun j => j = w.heap.size + 1 + 1 + 1) wr).drewN _).set8 (.inl rfl) _ _ _ _ _ _ _ _).heap HW.out (by omega)⟩, ⟨(((Fr.refl (fun j => j = w.heap.size + 1 + 1 + 1) wr).drewN _).set8 (.inl rfl) _ _ _ _ _ _ _ _).heap HZ.out (by omega)⟩, ⟨(HF.out.drewN _).set8 (.inr (by omega)) _ _ _ _ _ _ _ _⟩⟩, by simp [intOf]; omega⟩
      rw [HN.out]
      exact Sg.set8 (w := wr.drewN _) (g := w.heap.size + 1 + 1 + 1) HV.out
    · obtain rfl : t = 64 := by omega
      have HW1 := HW
      clear HW
      generalize hv : rnds s m 64 = v at HV
      have HR := Aside0.mk hv
      clear hv
      go_wp2_with fail
      go_loopw [13] (fun i wr => ∃ k : Nat, k ≤ 8 ∧ i = .int .i64 k ∧ Aside0 (TabF wr (w.heap.size + 3) 8 79 (fun j => if j < k then un (s.list.getD j 0 + v.list.getD j 0) else un (v.list.getD j 0))) ∧ Aside0 (St8i wr w.heap.size s) ∧ Aside0 (wr.heap[w.heap.size + 2]? = some (.cells zero8i 79 (0, 0))) ∧ Aside0 (Fr No w wr)) (fun i _ => 8 - (intOf i).toNat)
      case atStart => exact ⟨0, by omega, rfl, ⟨HV.out.tab.congr (fun j _ => by simp)⟩, HS, HZ, HF⟩
      case round =>
        clear HV HS HZ HF HW1
        obtain ⟨k, hk, rfl, HT, HS, HZ, HF⟩ := hrel
        by_cases hlt : k < 8
        · have hc1 := HT.out.cell (t := k) hlt
          simp only [Nat.lt_irrefl, if_false] at hc1
          have hc2 := HS.out.cellAt hlt
          have hfz := HT.out.free k
          have hk0 : (0 : Int) ≤ (k : Int) := by omega
          have hk1 : (k : Int) < 8 := by omega
          have HE : Aside0 (∀ j, j < 8 → (if j = k then un (s.list.getD k 0 + v.list.getD k 0) else if j < k then un (s.list.getD j 0 + v.list.getD j 0) else un (v.list.getD j 0)) = (if j < k + 1 then un (s.list.getD j 0 + v.list.getD j 0) else un (v.list.getD j 0))) := ⟨fun j _ => by
            by_cases e : j = k
            · subst e
              rw [if_pos rfl, if_pos (by omega)]
            · rw [if_neg e]
              by_cases e2 : j < k
              · rw [if_pos e2, if_pos (by omega)]
              · rw [if_neg e2, if_neg (by omega)]⟩
          generalize s.list.getD k 0 = a at hc2 HE
          generalize v.list.getD k 0 = b at hc1 HE
          have b0 := un_nonneg a; have b1 := un_lt a; have b2 := un_nonneg b; have b3 := un_lt b
          have HA := Aside0.mk (HT.out.set (t := k) (un (a + b)))
          go_wp2_with fail
          go_region
          go_wp2
          have ev : BitVec.ofInt 32 (un b + un a) = a + b := by rw [ofInt_add, ofInt_un, ofInt_un, BitVec.add_comm]
          rw [ev]
          refine ⟨⟨k + 1, by omega, by go_num, ⟨HA.out.congr HE.out⟩, ⟨(((Fr.refl (fun j => j = w.heap.size + 1 + 1 + 1) wr).setCell (.inl rfl) _).drew).heap HS.out (by omega)⟩, ⟨(((Fr.refl (fun j => j = w.heap.size + 1 + 1 + 1) wr).setCell (.inl rfl) _).drew).heap HZ.out (by omega)⟩, ⟨(HF.out.setCell (.inr (by simp only []; omega)) _).drew⟩⟩, by simp [intOf]; omega⟩
        · obtain rfl : k = 8 := by omega
          have hT : TabF wr (w.heap.size + 3) 8 79 (fun j => un ((comp s m).list.getD j 0)) := HT.out.congr (fun j hj => by
            rw [if_pos hj, ← addS_at s v j hj, ← HR.out]; rfl)
          have hT2 : wr.heap[w.heap.size + 1 + 1 + 1]? = some (.cells (state8i (comp s m)) 79 (0, 0)) := hT
          have hone : (state8i (comp s m)).all (·.oneCell') = true := by simp [state8i, Value.oneCell']
          have hsz : (state8i (comp s m)).size = 8 := rfl
          generalize state8i (comp s m) = CS at hT2 hone hsz hpost
          have HTB := Aside0.mk hT2; have HONE := Aside0.mk hone; have HSZ := Aside0.mk hsz; have HP := Aside0.mk hpost
          have HZ1 : Aside0 (wr.heap[w.heap.size + 1 + 1]? = some (.cells zero8i 79 (0, 0))) := HZ
          clear hT hT2 hone hsz HT hpost HZ HR HS
          go_wp2_with (first
            | refine wpList_load_row rfl _ _ rfl (w.heap.size + 1 + 1 + 1) rfl 79 CS _ (.array 8 3) HTB.out rfl rfl (by rw [HSZ.out]; rfl) ?_
            | refine wpList_store_row rfl _ _ _ rfl (w.heap.size + 1 + 1) CS rfl rfl 79 zero8i HZ1.out (by rw [HSZ.out]; rfl) (by rw [HSZ.out]; rfl) HONE.out ?_)
          try simp only [Exit.inBlock, Exit.then]
          refine bodyPost_ret (results_cell_row rfl _ _ (w.heap.size + 1 + 1) 79 _ _ (.array 8 3) rfl (setRow_heap wr (w.heap.size + 1 + 1) _ _ 79 _ HZ1.out) rfl rfl (by rw [HSZ.out]; rfl)) rfl ?_
          exact ⟨by rw [← HP.out], HF.out.setRow (.inr (by omega)) _⟩
end Go.Proofs.YtbaeddppihjgfaaDoor.Sg
