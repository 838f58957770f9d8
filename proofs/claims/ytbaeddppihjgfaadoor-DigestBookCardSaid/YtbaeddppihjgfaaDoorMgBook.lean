/- An append that keeps what the list had; mark, marked and grown of the law DigestBook. -/
import Derived.Maps.AppendAt
import Derived.Test.YtbaeddppihjgfaaDoorRegionB
import Derived.BigQuiet
import Derived.Test.YtbaeddppihjgfaaDoorRoom
namespace Go.Proofs.YtbaeddppihjgfaaDoor.Sg
open Go Go.RowKit Go.Proofs.YtbaeddppihjgfaaDoorW.PrintWords
set_option linter.unusedVariables false
theorem blk_of_add (a : Addr) (i : Nat) : (a.add i).block = a.block := by unfold Addr.add; split <;> rfl
/-- Bytes stay bytes. -/
def BySt (w w' : World) : Prop := ∀ (a : Addr) (x : UInt8), w.cell? a = some (.int .u8 (x.toNat : Int)) → ∃ y : UInt8, w'.cell? a = some (.int .u8 (y.toNat : Int))
theorem BySt.refl (w : World) : BySt w w := fun _ x h => ⟨x, h⟩
theorem BySt.trans {w w1 w2 : World} (h : BySt w w1) (k : BySt w1 w2) : BySt w w2 := fun a x hc => by
  obtain ⟨y, hy⟩ := h a x hc
  exact k a y hy
theorem BySt.of_fr {w w' : World} (h : Fr No w w') : BySt w w' := fun a x hc => ⟨x, h.cell hc id⟩
theorem Rb_cells {w : World} {A : Option Addr} {l : List UInt8} (h : Rb w A l) (hp : 0 < l.length) : ∃ ad, A = some ad ∧ ∀ j (hj : j < l.length), w.cell? (ad.add j) = some (.int .u8 (l[j].toNat : Int)) := by
  have h' : Kd.C (Kd.int .u8) w A (bi l).length (bi l) := by rw [bi_length]; exact h
  obtain ⟨ad, e, hc⟩ := C_cells h' (by rw [bi_length]; omega)
  refine ⟨ad, e, fun j hj => hc j _ ?_⟩
  have hj2 : j < (bi l).length := by rw [bi_length]; omega
  simp [nums, bi, List.getElem?_eq_getElem hj]
theorem Rb_mk {w : World} {A : Option Addr} {l : List UInt8} (hm : l.length ≤ 9223372036854775807) (h : 0 < l.length → ∃ ad, A = some ad ∧ ∀ j (hj : j < l.length), w.cell? (ad.add j) = some (.int .u8 (l[j].toNat : Int))) : Rb w A l := by
  refine Kd.C_of_reads (enc := Value.int .u8) (d := (0 : Int)) (h1 := fun _ => rfl) ⟨bi_length l, hm, fun hp => ?_⟩
  obtain ⟨ad, e, hc⟩ := h hp
  refine ⟨ad, e, fun j hj => ?_⟩
  rw [hc j hj]
  simp [bi, List.getD_eq_getElem?_getD, List.getElem?_eq_getElem hj]
theorem Rb.frS {S : Nat → Prop} {w w' : World} {A : Option Addr} {l : List UInt8} (h : Rb w A l) (hf : Fr S w w') (hS : ∀ ad, A = some ad → ¬ S ad.block) : Rb w' A l := Rb_mk (Rb_le h) (fun hp => by
  obtain ⟨ad, e, hc⟩ := Rb_cells h hp
  exact ⟨ad, e, fun j hj => hf.cell (hc j hj) (by rw [blk_of_add]; exact hS ad e)⟩)
/-- Some bytes are read. -/
def RdE (w : World) (A : Option Addr) (n : Nat) : Prop := ∃ l : List UInt8, l.length = n ∧ Rb w A l
open Classical in
theorem RdE.by_ {w w' : World} {A : Option Addr} {n : Nat} (h : RdE w A n) (hb : BySt w w') : RdE w' A n := by
  obtain ⟨l, rfl, hr⟩ := h
  by_cases hp : 0 < l.length
  · obtain ⟨ad, rfl, hc⟩ := Rb_cells hr hp
    have hy : ∀ j (hj : j < l.length), ∃ y : UInt8, w'.cell? (ad.add j) = some (.int .u8 (y.toNat : Int)) := fun j hj => hb _ _ (hc j hj)
    refine ⟨(List.range l.length).map (fun j => if hj : j < l.length then (hy j hj).choose else 0), by simp, Rb_mk (by simp; exact Rb_le hr) (fun _ => ⟨ad, rfl, fun j hj => ?_⟩)⟩
    have hj2 : j < l.length := by simpa using hj
    rw [(hy j hj2).choose_spec]
    simp [hj2]
  · exact ⟨[], by simp; omega, Rb_mk (by simp) (fun h => by simp at h)⟩
/-- What an append to v leaves of the old. -/
structure Kept1 (W w1 : World) (v v1 : Value) (n : Nat) : Prop where
  fr : Fr (fun k => v.ownBlock = some k) W w1
  hat : v1.ownBlock = v.ownBlock ∨ ∃ k, v1.ownBlock = some k ∧ W.heap.size ≤ k
  old : ∀ (b : Nat) (u : Value) (ys : List Int), Mine W b u ys → u.ownBlock = v.ownBlock → ys.length ≤ n → Mine w1 b u ys
  byt : BySt W w1
theorem Kept1.refl (w : World) (v : Value) (n : Nat) : Kept1 w w v v n := ⟨Fr.refl _ _, .inl rfl, fun _ _ _ h _ _ => h, BySt.refl w⟩
theorem Kept1.trans {w wr w1 : World} {v g v1 : Value} {n n2 : Nat} (h1 : Kept1 w wr v g n) (h2 : Kept1 wr w1 g v1 n2) (hn : n ≤ n2) : Kept1 w w1 v v1 n := by
  have hz := h1.fr.size
  refine ⟨h1.fr.trans h2.fr (fun k hk => ?_), ?_, fun b u ys hu he hl => ?_, h1.byt.trans h2.byt⟩
  · rcases h1.hat with e | ⟨q, e, hq⟩
    · exact .inl (e ▸ hk)
    · right
      rw [hk] at e
      injection e with e
      omega
  · rcases h2.hat with e | ⟨q, e, hq⟩
    · rw [e]; exact h1.hat
    · exact .inr ⟨q, e, by omega⟩
  · have hw := h1.old b u ys hu he hl
    rcases h1.hat with e | ⟨q, e, hq⟩
    · exact h2.old b u ys hw (he.trans e.symm) (by omega)
    · refine hw.fr h2.fr (fun k hk hS => ?_)
      have := (hu.base k hk).2
      rw [e] at hS
      injection hS with hS
      omega
theorem nil_of_own {w : World} {b : Nat} {u : Value} {ys : List Int} (h : Mine w b u ys) (hu : u.ownBlock = none) : u = .slice none 0 0 ∧ ys = [] := by
  have ho := Kd.own_of_R h
  rcases ho.2 with ⟨e, hn⟩ | ⟨g, cap, cur, e, _⟩
  · exact ⟨e, List.eq_nil_of_length_eq_zero hn⟩
  · rw [e] at hu; simp [Value.ownBlock] at hu
theorem run_app_keep {P : Program} (w : World) (t ty : TypeId) (ht : P.underlying t = some (.slice 5)) (hinfo : (P.info? 5).map (fun i => (i.zero, i.size, i.bytes)) = some (some (.int .u8 0), 1, 1))
    (base : Nat) (v : Value) (xs : List Int) (hown : Mine w base v xs) (a : Addr) (c : Nat) (y : UInt8) (hc : w.cell? a = some (.int .u8 (y.toNat : Int))) (hl : xs.length + 1 ≤ 140737488355328) (hbase : base ≤ w.heap.size) :
    ∃ v' w', (Builtin.append_ #[t, t] ty #[v, .slice (some a) 1 c]).run P w = .ok v' w' ∧ Mine w' base v' (xs ++ [(y.toNat : Int)]) ∧ Kept1 w w' v v' xs.length := by
  obtain ⟨i, hi, hzz⟩ := Option.map_eq_some_iff.1 hinfo
  simp only [Prod.mk.injEq] at hzz
  obtain ⟨hz0, hz1, hz2⟩ := hzz
  have ho := Kd.own_of_R hown
  have hnews : ∀ j u, [Value.int .u8 (y.toNat : Int)][j]? = some u → w.cell? (a.add j) = some u := fun j u hj => by
    match j, hj with
    | 0, hj =>
      obtain rfl : Value.int .u8 (y.toNat : Int) = u := by simpa using hj
      have : a.add 0 = a := by simp [Addr.add]
      rw [this]; exact hc
    | j + 1, hj => simp at hj
  have h1 : ∀ u ∈ [Value.int .u8 (y.toNat : Int)], u.oneCell' = true := fun u hu => by rw [List.mem_singleton.1 hu]; rfl
  obtain ⟨v', w', hr, hown', hg, _, hat⟩ := run_append_own_at (P := P) w base t ty 5 i (.int .u8 0) 1 1 ht hi hz0 hz1 hz2 rfl (by decide) v xs.length _ ho a 1 c [.int .u8 (y.toNat : Int)] rfl hnews h1 (by simp only [maxLen]; omega) (by omega) hbase
  have hfr : Fr (fun k => v.ownBlock = some k) w w' := (Fr.refl _ w).grown hg (fun k hk => .inl hk)
  refine ⟨v', w', hr, Kd.R_of_own (by simpa [encs] using hown') (fun _ _ => trivial), hfr, hat.imp id (fun e => ⟨_, e, Nat.le_refl _⟩), ?_, ?_⟩
  · intro b u ys hu he hle
    rcases ho.2 with ⟨rfl, hn⟩ | ⟨g, cap, cur, rfl, hbg, hgb, hnc, hcm, hcs, htk⟩
    · obtain ⟨rfl, rfl⟩ := nil_of_own hu he
      exact Mine.nil _ _
    · have hou := Kd.own_of_R hu
      rcases hou.2 with ⟨rfl, _⟩ | ⟨g', cap', cur', rfl, hbg', hgb', hnc', hcm', hcs', htk'⟩
      · simp [Value.ownBlock] at he
      · obtain rfl : g' = g := by simpa [Value.ownBlock] using he
        obtain ⟨rfl, -⟩ : cur = cur' ∧ True := by rw [hgb] at hgb'; simpa using hgb'
        by_cases hroom : xs.length + 1 ≤ cap
        · have hr2 := run_append_room (P := P) w t ty 5 i ht hi g' xs.length cap cur hgb a 1 c [.int .u8 (y.toNat : Int)] (by rw [hz1]; rfl) hnews h1 hroom (by rw [hz1]; simp; omega)
          rw [hr] at hr2
          obtain ⟨rfl, rfl⟩ : _ ∧ _ := by simpa only [Result.ok.injEq] using hr2
          refine Kd.R_of_own ⟨hou.1, .inr ⟨g', cap', _, rfl, hbg', setRow_heap w g' cur _ 5 _ hgb, hnc', hcm', ?_, ?_⟩⟩ (fun _ _ => trivial)
          · simp only [List.size_toArray, List.length_append, List.length_take, List.length_drop, Array.length_toList, hz1, List.length_cons, List.length_nil]
            omega
          · rw [← htk']
            simp only [hz1, Nat.mul_one, List.append_assoc]
            rw [List.take_append_of_le_length (by rw [List.length_take, show cur.toList.length = cap by simpa using hcs]; omega), List.take_take, Nat.min_eq_left hle]
        · have holds : ∀ j u, (encs (Value.int .u8) xs)[j]? = some u → w.cell? ((⟨g', 0, none⟩ : Addr).add j) = some u := ho.cells (g := g') rfl
          have hr2 := run_append_grow (P := P) w t ty 5 i (.int .u8 0) ht hi hz0 ⟨g', 0, none⟩ xs.length cap (encs (Value.int .u8) xs) (by rw [encs_length, hz1]; omega) holds a 1 c [.int .u8 (y.toNat : Int)] (by rw [hz1]; rfl) hnews (by omega) (by omega) (growslice_fits (by omega) (by rw [hz2]; omega))
          rw [hr] at hr2
          obtain ⟨rfl, rfl⟩ : _ ∧ _ := by simpa only [Result.ok.injEq] using hr2
          exact hu.fr ((Fr.refl No w).drew.alloc _) (fun _ _ => id)
  · rcases ho.2 with ⟨rfl, hn⟩ | ⟨g, cap, cur, rfl, hbg, hgb, hnc, hcm, hcs, htk⟩
    · exact fun p x hp => ⟨x, hg.cell hp (by simp [Value.ownBlock])⟩
    · by_cases hroom : xs.length + 1 ≤ cap
      · have hr2 := run_append_room (P := P) w t ty 5 i ht hi g xs.length cap cur hgb a 1 c [.int .u8 (y.toNat : Int)] (by rw [hz1]; rfl) hnews h1 hroom (by rw [hz1]; simp; omega)
        rw [hr] at hr2
        obtain ⟨rfl, rfl⟩ : _ ∧ _ := by simpa only [Result.ok.injEq] using hr2
        intro p x hp
        by_cases e : p.block = g
        · have hb := setRow_heap w g cur (cur.toList.take (xs.length * i.size) ++ [Value.int .u8 (y.toNat : Int)] ++ cur.toList.drop (xs.length * i.size + [Value.int .u8 (y.toNat : Int)].length)).toArray 5 _ hgb
          unfold World.cell? at hp ⊢
          rw [e] at hp ⊢
          rw [hgb] at hp
          rw [hb]
          dsimp only at hp ⊢
          simp only [hz1, Nat.mul_one, List.length_cons, List.length_nil, Nat.zero_add, List.getElem?_toArray] at hp ⊢
          have hlt : xs.length ≤ cur.toList.length := by rw [show cur.toList.length = cap by simpa using hcs]; omega
          have hsp : p.spot.isSome = false := by
            cases hs : p.spot.isSome with
            | false => rfl
            | true => rw [hs] at hp; simp at hp
          rw [hsp] at hp ⊢
          simp only [Bool.false_eq_true, if_false] at hp ⊢
          rcases Nat.lt_trichotomy p.off xs.length with h | h | h
          · refine ⟨x, ?_⟩
            rw [List.append_assoc, List.getElem?_append_left (by rw [List.length_take]; omega), List.getElem?_take_of_lt h, Array.getElem?_toList]
            exact hp
          · refine ⟨y, ?_⟩
            rw [List.append_assoc, List.getElem?_append_right (by rw [List.length_take]; omega), List.length_take, h, show xs.length - min xs.length cur.toList.length = 0 by omega]
            rfl
          · refine ⟨x, ?_⟩
            rw [List.getElem?_append_right (by simp; omega), List.getElem?_drop]
            have : xs.length + 1 + (p.off - (List.take xs.length cur.toList ++ [Value.int .u8 (y.toNat : Int)]).length) = p.off := by
              rw [List.length_append, List.length_take]; simp; omega
            rw [this, Array.getElem?_toList]
            exact hp
        · exact ⟨x, hg.cell hp (by simpa [Value.ownBlock] using e)⟩
      · have holds : ∀ j u, (encs (Value.int .u8) xs)[j]? = some u → w.cell? ((⟨g, 0, none⟩ : Addr).add j) = some u := ho.cells (g := g) rfl
        have hr2 := run_append_grow (P := P) w t ty 5 i (.int .u8 0) ht hi hz0 ⟨g, 0, none⟩ xs.length cap (encs (Value.int .u8) xs) (by rw [encs_length, hz1]; omega) holds a 1 c [.int .u8 (y.toNat : Int)] (by rw [hz1]; rfl) hnews (by omega) (by omega) (growslice_fits (by omega) (by rw [hz2]; omega))
        rw [hr] at hr2
        obtain ⟨rfl, rfl⟩ : _ ∧ _ := by simpa only [Result.ok.injEq] using hr2
        exact BySt.of_fr ((Fr.refl No w).drew.alloc _)
section
variable {P : Program} {ops : Array Oper} {rest : List Oper} {o : Oper} {a : Act} {Q : Exit → Act → World → Prop}
theorem app_keep {W : World} {base : Nat} (hgd : o.guard = none) (s x : Operand) (t : TypeId)
    (ho : o.op = .call { callee := .builtin .append, args := #[s, x], argTypes := #[t, t] }) (ht : P.underlying t = some (.slice 5))
    (hinfo : (P.info? 5).map (fun i => (i.zero, i.size, i.bytes)) = some (some (.int .u8 0), 1, 1))
    (v : Value) (xs : List Int) (y : UInt8) (hs : a.eval s = v) (hx : a.eval x = .slice (some ⟨W.heap.size, 0, none⟩) 1 1)
    (HO : Mine W base v xs) (hB : base ≤ W.heap.size) (hl : xs.length + 1 ≤ 140737488355328)
    (h : ∀ v1 w1, Mine w1 base v1 (xs ++ [(y.toNat : Int)]) → Kept1 W w1 v v1 xs.length → wpList P ops Q rest (a.put o.dst v1) w1) :
    wpList P ops Q (o :: rest) a (W.alloc (.cells #[.int .u8 (y.toNat : Int)] 5)) := by
  refine wpList_plain hgd fun K hK => ?_
  have hf : Fr No W (W.alloc (.cells #[.int .u8 (y.toNat : Int)] 5)) := (Fr.refl No W).alloc _
  have hz : (W.alloc (.cells #[.int .u8 (y.toNat : Int)] 5)).heap.size = W.heap.size + 1 := by simp
  have hcl : (W.alloc (.cells #[.int .u8 (y.toNat : Int)] 5)).cell? ⟨W.heap.size, 0, none⟩ = some (.int .u8 (y.toNat : Int)) := by rw [World.cell?_alloc_mark]; simp
  obtain ⟨v', w', hr, h2, h3⟩ := run_app_keep (P := P) _ t o.type ht hinfo base v xs (HO.fr hf (fun _ _ => id)) ⟨W.heap.size, 0, none⟩ 1 y hcl hl (by omega)
  unfold Oper.wp execOp
  simp only [ho, resolve, invoke, builtin, Sem.run_bind, Sem.run_pure, Result.andThen_ok, List.map_toArray, List.map_cons, List.map_nil, hs, hx, hr]
  refine hK _ _ (h v' w' h2 ⟨(hf.mono (fun _ h => h.elim)).trans h3.fr (fun k hk => .inl hk), h3.hat.imp id (fun ⟨k, e, hk⟩ => ⟨k, e, by omega⟩), fun b u ys hu he hle => h3.old b u ys (hu.fr hf (fun _ _ => id)) he hle, (BySt.of_fr hf).trans h3.byt⟩)
end
/-! ### mark, marked, grown -/
def mkB (n k : Nat) : UInt8 := UInt8.ofNat (n / 2 ^ (8 * (k % 4)))
def markL (n len : Nat) : List UInt8 := (List.range len).map (mkB n)
theorem markL_length (n len : Nat) : (markL n len).length = len := by simp [markL]
theorem markL_succ (n k : Nat) : markL n (k + 1) = markL n k ++ [mkB n k] := by simp [markL, List.range_succ]
theorem mark_calls (n k : Nat) (w : World) (hn : n ≤ 1099511627776) (hk : k ≤ 1099511627776) :
    Calls Tryd.prog 73 #[.int .i64 (n : Int), .int .i64 (k : Int)] w fun e w' => e = .returned (.int .u8 ((mkB n k).toNat : Int)) ∧ w = w' := by
  have h4 : k % 4 = 0 ∨ k % 4 = 1 ∨ k % 4 = 2 ∨ k % 4 = 3 := by omega
  rcases h4 with h | h | h | h
  · have hm : (k : Int) % 4 = 0 := by omega
    have he : Aside0 (((mkB n k).toNat : Int) = (n : Int) % 256) := ⟨by unfold mkB; rw [h, UInt8.toNat_ofNat']; simp⟩
    go_enter Tryd.func73, Tryd.ntmps73
    go_wp2
    go_ret
    rw [he.out]
    exact ⟨rfl, rfl⟩
  · have hm : (k : Int) % 4 = 1 := by omega
    have he : Aside0 (((mkB n k).toNat : Int) = (n : Int) / 256 % 256) := ⟨by unfold mkB; rw [h, UInt8.toNat_ofNat']; simp⟩
    go_enter Tryd.func73, Tryd.ntmps73
    go_wp2
    go_ret
    rw [he.out]
    exact ⟨rfl, rfl⟩
  · have hm : (k : Int) % 4 = 2 := by omega
    have he : Aside0 (((mkB n k).toNat : Int) = (n : Int) / 65536 % 256) := ⟨by unfold mkB; rw [h, UInt8.toNat_ofNat']; simp⟩
    go_enter Tryd.func73, Tryd.ntmps73
    go_wp2
    go_ret
    rw [he.out]
    exact ⟨rfl, rfl⟩
  · have hm : (k : Int) % 4 = 3 := by omega
    have he : Aside0 (((mkB n k).toNat : Int) = (n : Int) / 16777216 % 256) := ⟨by unfold mkB; rw [h, UInt8.toNat_ofNat']; simp⟩
    go_enter Tryd.func73, Tryd.ntmps73
    go_wp2
    go_ret
    rw [he.out]
    exact ⟨rfl, rfl⟩
set_option maxHeartbeats 1000000 in
theorem marked_calls (n len : Nat) (w : World) (hn : n ≤ 1099511627776) (hk : len ≤ 1099511627776) :
    Calls Tryd.prog 74 #[.int .i64 (n : Int), .int .i64 (len : Int)] w fun e w' => ∃ v, e = .returned v ∧ Mine w' w.heap.size v (bi (markL n len)) ∧ Fr No w w' := by
  go_enter Tryd.func74, Tryd.ntmps74
  go_wp2_with fail
  go_loopw [5, 6] (fun v i wr => ∃ k : Nat, k ≤ len ∧ i = .int .i64 k ∧ Aside0 (Mine wr w.heap.size v (bi (markL n k))) ∧ Aside0 (Fr No w wr)) (fun _ i _ => len - (intOf i).toNat)
  case atStart => exact ⟨0, by omega, rfl, ⟨Mine.nil _ _⟩, ⟨Fr.refl _ _⟩⟩
  case round =>
    obtain ⟨k, hk2, rfl, HM, HF⟩ := hrel
    by_cases hlt : k < len
    · have hki : (k : Int) < (len : Int) := by omega
      have HS := Aside0.mk (markL_succ n k)
      have HL := Aside0.mk (markL_length n k)
      go_wp2_with fail
      refine (mark_calls n k wr hn (by omega)).mono ?_
      rintro e w2 ⟨rfl, rfl⟩
      have HB := Aside0.mk HF.out.size
      generalize mkB n k = y at *
      go_wp2_with (at_builtin; refine app_keep (base := w.heap.size) rfl (.tmp 12) (.tmp 16) 22 rfl Tryd.underlying22 infoU8 _ (bi (markL n k)) y rfl rfl HM.out HB.out (by rw [bi_length, HL.out]; omega) ?_; intro v1 w1 hm hk1)
      have HM1 : Aside0 (Mine w1 w.heap.size v1 (bi (markL n (k + 1)))) := ⟨by rw [HS.out, bi_append]; exact hm⟩
      have HF1 : Aside0 (Fr No w w1) := ⟨HF.out.trans hk1.fr (fun q hq => .inr (HM.out.base q hq).1)⟩
      clear hm hk1
      go_wp2
      exact ⟨⟨k + 1, by omega, by go_num, HM1, HF1⟩, by simp [intOf]; omega⟩
    · obtain rfl : k = len := by omega
      go_wp2_with fail
      go_ret
      exact ⟨_, rfl, HM.out, HF.out⟩
set_option maxHeartbeats 1000000 in
theorem grown_calls (w : World) (B : Nat) (v : Value) (l m : List UInt8) (A : Option Addr) (c : Nat) (hv : Mine w B v (bi l)) (hm : Rb w A m) (hA : ∀ ad, A = some ad → v.ownBlock ≠ some ad.block) (hB : B ≤ w.heap.size) (hc : m.length ≤ c) (hl : l.length + m.length ≤ 140737488355328) :
    Calls Tryd.prog 75 #[v, .slice A m.length c] w fun e w' => ∃ v', e = .returned v' ∧ Mine w' B v' (bi (l ++ m)) ∧ Kept1 w w' v v' l.length := by
  have HV := Aside0.mk hv; have HM := Aside0.mk hm; have HA := Aside0.mk hA
  clear hv hm hA
  go_enter Tryd.func75, Tryd.ntmps75
  go_wp2_with fail
  go_loopw [0, 5] (fun g i wr => ∃ k : Nat, k ≤ m.length ∧ i = .int .i64 k ∧ Aside0 (Mine wr B g (bi (l ++ m.take k))) ∧ Aside0 (Kept1 w wr v g l.length)) (fun _ i _ => m.length - (intOf i).toNat)
  case atStart => exact ⟨0, by omega, rfl, ⟨by simpa using HV.out⟩, ⟨Kept1.refl _ _ _⟩⟩
  case round =>
    obtain ⟨k, hk2, rfl, HG, HK⟩ := hrel
    by_cases hlt : k < m.length
    · have hki : (k : Int) < (m.length : Int) := by omega
      obtain ⟨ad, hAe, hcs⟩ := Rb_cells HM.out (by omega)
      subst hAe
      have hcl := HK.out.fr.cell (hcs k hlt) (by rw [blk_of_add]; exact HA.out ad rfl)
      have HS : Aside0 (bi (l ++ m.take (k + 1)) = bi (l ++ m.take k) ++ [((m[k]'hlt).toNat : Int)]) := ⟨by rw [List.take_succ_eq_append_getElem hlt, ← List.append_assoc, bi_append (l ++ m.take k)]; rfl⟩
      have HL : Aside0 ((bi (l ++ m.take k)).length = l.length + k) := ⟨by rw [bi_length, List.length_append, List.length_take]; omega⟩
      have HB : Aside0 (B ≤ wr.heap.size) := ⟨Nat.le_trans hB HK.out.fr.size⟩
      clear hcs
      generalize m[k]'hlt = y at *
      go_wp2_with (at_builtin; refine app_keep (base := B) rfl (.tmp 12) (.tmp 17) 22 rfl Tryd.underlying22 infoU8 _ (bi (l ++ m.take k)) y rfl rfl HG.out HB.out (by rw [HL.out]; omega) ?_; intro v1 w1 hm1 hk1)
      have HM1 : Aside0 (Mine w1 B v1 (bi (l ++ m.take (k + 1)))) := ⟨by rw [HS.out]; exact hm1⟩
      have HK1 : Aside0 (Kept1 w w1 v v1 l.length) := ⟨HK.out.trans hk1 (by rw [HL.out]; omega)⟩
      clear hm1 hk1
      go_wp2
      exact ⟨⟨k + 1, by omega, by go_num, HM1, HK1⟩, by simp [intOf]; omega⟩
    · obtain rfl : k = m.length := by omega
      have HE : Aside0 (m.take m.length = m) := ⟨List.take_length⟩
      go_wp2_with fail
      go_ret
      exact ⟨_, rfl, by rw [HE.out] at HG; exact HG.out, HK.out⟩
end Go.Proofs.YtbaeddppihjgfaaDoor.Sg
namespace Go.Proofs.YtbaeddppihjgfaaDoor.Sg
open Go Go.RowKit Go.Proofs.YtbaeddppihjgfaaDoorW.PrintWords
set_option linter.unusedVariables false
abbrev Slc := Option Addr × Nat × Nat
def slcV (s : Slc) : Value := .slice s.1 s.2.1 s.2.2
abbrev KV : Kd Slc := Kd.scalar slcV (fun _ => rfl)
abbrev KS : Kd (List UInt8) := Kd.scalar (fun l : List UInt8 => Value.string ⟨l.toArray⟩) (fun _ => rfl)
theorem scalar_at {α : Type} {enc : α → Value} {h1 : ∀ x, (enc x).oneCell' = true} {w : World} {A : Option Addr} {xs : List α} (h : (Kd.scalar enc h1).C w A xs.length xs) (i : Nat) (hi : i < xs.length) : ∃ ad, A = some ad ∧ w.cell? (ad.add i) = some (enc xs[i]) := by
  obtain ⟨ad, e, hc⟩ := (Kd.reads_of_C (d := xs[i]) h).at_ (i : Int) (by omega) (by omega)
  refine ⟨ad, e, ?_⟩
  simpa [rdOf, List.getD_eq_getElem?_getD, List.getElem?_eq_getElem hi] using hc
theorem scalar_fr {α : Type} {enc : α → Value} {h1 : ∀ x, (enc x).oneCell' = true} {e : Nat} {S : Nat → Prop} {w w1 : World} {B : Nat} {v : Value} {xs : List α} (h : (Kd.scalar enc h1).R e w B (fun _ => True) v xs) (hf : Fr S w w1) (hn : ∀ k, v.ownBlock = some k → ¬ S k) : (Kd.scalar enc h1).R e w1 B (fun _ => True) v xs := by
  have h2 : (Kd.scalar enc h1).R e w B (fun k => v.ownBlock = some k) v xs := ⟨fun k hk => hk, h.2.imp (fun inner hi => ⟨hi.1, hi.2.imp_ (fun _ _ hp => hp)⟩)⟩
  exact Kd.R_mono (Kd.R_kept h2 hf.kept (fun k hk => hn k hk)) (fun _ _ => trivial)
/-- The struct, and the two lists in it. -/
structure BookS (w : World) (B p n : Nat) (vW vL : Value) (ws : List (List UInt8)) (es : List Slc) : Prop where
  box : w.heap[p]? = some (.cells #[.int .i64 (n : Int), vW, vL] 71 (0, 0))
  want : Kd.R KS 9 w B (fun _ => True) vW ws
  lists : Kd.R KV 22 w B (fun _ => True) vL es
/-- A slice that reads so. -/
structure ElemS (w : World) (e : Slc) (l : List UInt8) : Prop where
  len : e.2.1 = l.length
  le : l.length ≤ e.2.2
  rd : Rb w e.1 l
theorem BookS.cell {w : World} {B p n : Nat} {vW vL : Value} {ws : List (List UInt8)} {es : List Slc} (h : BookS w B p n vW vL ws es) :
    w.cell? ⟨p, 0, none⟩ = some (.int .i64 (n : Int)) ∧ w.cell? ⟨p, 1, none⟩ = some vW ∧ w.cell? ⟨p, 2, none⟩ = some vL := by
  refine ⟨?_, ?_, ?_⟩ <;> rw [blk_cell h.box] <;> rfl
theorem BookS.fr {S : Nat → Prop} {w w1 : World} {B p n : Nat} {vW vL : Value} {ws : List (List UInt8)} {es : List Slc} (h : BookS w B p n vW vL ws es) (hf : Fr S w w1) (hp : ¬ S p) (hW : ∀ k, vW.ownBlock = some k → ¬ S k) (hL : ∀ k, vL.ownBlock = some k → ¬ S k) : BookS w1 B p n vW vL ws es :=
  ⟨hf.heap h.box hp, scalar_fr h.want hf hW, scalar_fr h.lists hf hL⟩
theorem ElemS.frS {S : Nat → Prop} {w w' : World} {e : Slc} {l : List UInt8} (h : ElemS w e l) (hf : Fr S w w') (hS : ∀ ad, e.1 = some ad → ¬ S ad.block) : ElemS w' e l := ⟨h.len, h.le, h.rd.frS hf hS⟩
set_option maxHeartbeats 1000000 in
theorem still_calls (w : World) (B p n : Nat) (vW vL : Value) (ws : List (List UInt8)) (es : List Slc) (hb : BookS w B p n vW vL ws es) (hl : es.length = ws.length) (hn : es.length ≤ 1099511627776) (he : ∀ q (h1 : q < es.length) (h2 : q < ws.length), ElemS w es[q] ws[q]) :
    Calls Tryd.prog 48 #[.pointer (some ⟨p, 0, none⟩)] w fun e w' => e = .returned (.bool true) ∧ Fr No w w' := by
  obtain ⟨c0, c1, c2⟩ := hb.cell
  obtain ⟨X, cx, rfl, hcx, hrx⟩ := Kd.R_reads hb.lists
  obtain ⟨Y, cy, rfl, hcy, hry⟩ := Kd.R_reads hb.want
  have HX := Aside0.mk hrx; have HY := Aside0.mk hry; have HE := Aside0.mk he; have HL := Aside0.mk hl
  clear hb hrx hry he hl hcx hcy
  have hN : ws.length ≤ 1099511627776 := by rw [← HL.out]; exact hn
  rw [HL.out] at c2 hn
  go_enter Tryd.func48, Tryd.ntmps48
  go_wp2_with fail
  go_loopw [3] (fun i wr => ∃ k : Nat, k ≤ ws.length ∧ i = .int .i64 k ∧ Aside0 (Fr No w wr)) (fun i _ => ws.length - (intOf i).toNat)
  case atStart => exact ⟨0, by omega, rfl, ⟨Fr.refl _ _⟩⟩
  case round =>
    obtain ⟨k, hk, rfl, HF⟩ := hrel
    have d1 := HF.out.cell c1 id
    have d2 := HF.out.cell c2 id
    by_cases hlt : k < ws.length
    · have hki : (k : Int) < (ws.length : Int) := by omega
      obtain ⟨ax, hX, hx⟩ := scalar_at HX.out k (by rw [HL.out]; exact hlt)
      obtain ⟨ay, hY, hy⟩ := scalar_at HY.out k hlt
      have hE := HE.out k (by rw [HL.out]; exact hlt) hlt
      have hx2 := HF.out.cell hx id
      have hy2 := HF.out.cell hy id
      obtain ⟨e1, e2, e3⟩ := hE
      have hrd := C_fr e3 HF.out
      generalize es[k]'(by rw [HL.out]; exact hlt) = e at *
      obtain ⟨D, dl, dc⟩ := e
      unfold slcV at hx2
      dsimp only at e1 e2 e3 hx2 hrd
      subst e1
      generalize ws[k]'hlt = l at *
      subst hX hY
      have h1 := fun n => Kd.C_string (P := Tryd.prog) (c := dc) Tryd.underlying22 Tryd.underlying5 Tryd.underlying9 (C_fr hrd ((Fr.refl No wr).drewN n))
      rw [str_bi] at h1
      have hbe : ((⟨l.toArray⟩ : ByteArray).toList == (⟨l.toArray⟩ : ByteArray).toList) = true := beq_self_eq_true _
      clear hx hy e2 e3 hrd
      go_wp2_with fail
      go_quiet (fail)
      have HF1 : Aside0 (Fr No w (wr.drewN nq)) := ⟨HF.out.drewN nq⟩
      go_wp2_with fail
      exact ⟨⟨k + 1, by omega, by go_num, HF1⟩, by simp [intOf]; omega⟩
    · obtain rfl : k = ws.length := by omega
      go_wp2_with fail
      go_ret
      exact ⟨rfl, HF.out⟩
end Go.Proofs.YtbaeddppihjgfaaDoor.Sg
namespace Go.Proofs.YtbaeddppihjgfaaDoor.Sg
open Go Go.RowKit Go.Proofs.YtbaeddppihjgfaaDoorW.PrintWords
set_option linter.unusedVariables false
/-- n lists of the call's own, no two in one block. -/
structure RowsF (w : World) (B n : Nat) (vs : Nat → Value) (rs : Nat → List UInt8) : Prop where
  mine : ∀ j, j < n → Mine w B (vs j) (bi (rs j))
  sep : ∀ i j, i < n → j < n → i ≠ j → NeRow (vs i) (vs j)
def OwnD (n : Nat) (vs : Nat → Value) (k : Nat) : Prop := ∃ j, j < n ∧ (vs j).ownBlock = some k
section
variable {w w' : World} {B n : Nat} {vs : Nat → Value} {rs rs' : Nat → List UInt8} {S : Nat → Prop}
theorem RowsF.congr (h : RowsF w B n vs rs) (he : ∀ j, j < n → rs j = rs' j) : RowsF w B n vs rs' := ⟨fun j hj => by rw [← he j hj]; exact h.mine j hj, h.sep⟩
theorem RowsF.fr (h : RowsF w B n vs rs) (hf : Fr S w w') (hS : ∀ k, OwnD n vs k → ¬ S k) : RowsF w' B n vs rs := ⟨fun j hj => (h.mine j hj).fr hf (fun k hk => hS k ⟨j, hj, hk⟩), h.sep⟩
theorem RowsF.lt (h : RowsF w B n vs rs) {k : Nat} (hk : OwnD n vs k) : B ≤ k ∧ k < w.heap.size := by
  obtain ⟨j, hj, e⟩ := hk
  exact (h.mine j hj).base k e
theorem RowsF.form (h : RowsF w B n vs rs) (i : Nat) (hi : i < n) (hp : 0 < (rs i).length) : ∃ g c, vs i = .slice (some ⟨g, 0, none⟩) (rs i).length c ∧ g < w.heap.size ∧ OwnD n vs g ∧ ∃ cells, w.heap[g]? = some (.cells cells 5 (0, 0)) := by
  obtain ⟨g, c, hv, _, hg, hc⟩ := Kd.R_form (h.mine i hi) (by rw [bi_length]; exact hp)
  rw [bi_length] at hv
  exact ⟨g, c, hv, hg, ⟨i, hi, by rw [hv]; simp [Value.ownBlock]⟩, hc⟩
theorem RowsF.put (h : RowsF w B n vs rs) (i : Nat) (hi : i < n) (k : Nat) (hk : k < (rs i).length) {g c : Nat} (hv : vs i = .slice (some ⟨g, 0, none⟩) (rs i).length c) (y : UInt8) :
    (∃ u, w.cell? ⟨g, k, none⟩ = some u) ∧ w.frozen? ⟨g, k, none⟩ = false ∧ RowsF (w.setCell ⟨g, k, none⟩ (.int .u8 (y.toNat : Int))) B n vs (fun j => if j = i then (rs i).set k y else rs j) := by
  have hm := h.mine i hi
  rw [hv] at hm
  obtain ⟨hc, hf⟩ := Kd.R_celln (0 : Int) hm (k : Int) (by omega) (by omega)
  have hp := Kd.R_putn hm (k : Int) (y.toNat : Int)
  simp only [Int.toNat_natCast] at hc hf hp
  refine ⟨⟨_, hc⟩, hf, fun j hj => ?_, h.sep⟩
  by_cases e : j = i
  · subst e
    simp only [if_pos]
    rw [hv]
    have : bi ((rs j).set k y) = (bi (rs j)).set k (y.toNat : Int) := by unfold bi; rw [List.map_set]
    rw [this]
    exact hp
  · simp only [if_neg e]
    refine (h.mine j hj).fr (S := fun b => b = g) ((Fr.refl (fun b => b = g) w).setCell (.inl rfl) _) (fun q hq hqg => ?_)
    exact h.sep j i hj hi e q hq (by rw [hv, hqg]; simp [Value.ownBlock])
end
/-- The first k of m, the rest of r. -/
def bkMix (m r : List UInt8) (k : Nat) : List UInt8 := m.take k ++ r.drop k
theorem bkMix_zero (m r : List UInt8) : bkMix m r 0 = r := by simp [bkMix]
theorem bkMix_all (m r : List UInt8) (h : m.length = r.length) : bkMix m r r.length = m := by unfold bkMix; rw [← h, List.take_length, h, List.drop_length, List.append_nil]
theorem bkMix_length (m r : List UInt8) (k : Nat) (h : m.length = r.length) (hk : k ≤ r.length) : (bkMix m r k).length = r.length := by unfold bkMix; rw [List.length_append, List.length_take, List.length_drop]; omega
theorem bkMix_set (m r : List UInt8) (k : Nat) (h : m.length = r.length) (hk : k < r.length) (hm : k < m.length) : (bkMix m r k).set k m[k] = bkMix m r (k + 1) := by
  unfold bkMix
  rw [List.set_append_right _ _ (by rw [List.length_take]; omega), List.length_take, show k - min k m.length = 0 by omega, List.take_succ_eq_append_getElem hm, List.append_assoc]
  congr 1
  rw [List.drop_eq_getElem_cons hk]
  rfl
/-- Rows below i full of marks, row i up to k. -/
def rowsAt (M rs : Nat → List UInt8) (i k j : Nat) : List UInt8 := if j < i then M j else if j = i then bkMix (M j) (rs j) k else rs j
theorem rowsAt_zero (M rs : Nat → List UInt8) (j : Nat) : rowsAt M rs 0 0 j = rs j := by
  unfold rowsAt
  rw [if_neg (by omega)]
  split
  · rw [bkMix_zero]
  · rfl
theorem rowsAt_next (M rs : Nat → List UInt8) (i j : Nat) (h : (M i).length = (rs i).length) : rowsAt M rs i (rs i).length j = rowsAt M rs (i + 1) 0 j := by
  unfold rowsAt
  rcases Nat.lt_trichotomy j i with h1 | h1 | h1
  · rw [if_pos h1, if_pos (by omega)]
  · subst h1
    rw [if_neg (by omega), if_pos rfl, if_pos (by omega), bkMix_all _ _ h]
  · rw [if_neg (by omega), if_neg (by omega), if_neg (by omega)]
    split
    · rw [bkMix_zero]
    · rfl
theorem rowsAt_self (M rs : Nat → List UInt8) (i k : Nat) : rowsAt M rs i k i = bkMix (M i) (rs i) k := by unfold rowsAt; rw [if_neg (by omega), if_pos rfl]
theorem rowsAt_set (M rs : Nat → List UInt8) (i k j : Nat) (h : (M i).length = (rs i).length) (hk : k < (rs i).length) (hm : k < (M i).length) : (if j = i then (rowsAt M rs i k i).set k (M i)[k] else rowsAt M rs i k j) = rowsAt M rs i (k + 1) j := by
  by_cases e : j = i
  · subst e
    rw [if_pos rfl, rowsAt_self, rowsAt_self, bkMix_set _ _ _ h hk hm]
  · rw [if_neg e]
    unfold rowsAt
    rcases Nat.lt_or_ge j i with h1 | h1
    · rw [if_pos h1, if_pos h1]
    · rw [if_neg (by omega), if_neg (by omega), if_neg (by omega), if_neg (by omega)]
theorem rowsAt_length (M rs : Nat → List UInt8) (i k j : Nat) (h : ∀ j, (M j).length = (rs j).length) (hk : k ≤ (rs i).length) : (rowsAt M rs i k j).length = (rs j).length := by
  unfold rowsAt
  split
  · exact h j
  · split
    · next e => subst e; exact bkMix_length _ _ _ (h j) hk
    · rfl
/-! ### the book -/
theorem BookS.putL {W : World} {B p : Nat} {n : Int} {vW vL v1 : Value} {ws : List (List UInt8)} {es : List Slc} (hb : W.heap[p]? = some (.cells #[.int .i64 n, vW, vL] 71 (0, 0))) (hw : Kd.R KS 9 W B (fun _ => True) vW ws) (hl : Kd.R KV 22 W B (fun _ => True) v1 es) (m : Nat) (hm : n = (m : Int)) :
    BookS (W.setCell ⟨p, 2, none⟩ v1) B p m vW v1 ws es := by
  subst hm
  have hf : Fr (fun b => b = p) W (W.setCell ⟨p, 2, none⟩ v1) := (Fr.refl (fun b => b = p) W).setCell (.inl rfl) _
  exact ⟨blk_set hb 2 v1, scalar_fr hw hf (fun k hk e => Kd.R_ne hw hb (by decide) (by rw [hk, e])), scalar_fr hl hf (fun k hk e => Kd.R_ne hl hb (by decide) (by rw [hk, e]))⟩
theorem BookS.putW {W : World} {B p : Nat} {n : Int} {vW vL v1 : Value} {ws : List (List UInt8)} {es : List Slc} (hb : W.heap[p]? = some (.cells #[.int .i64 n, vW, vL] 71 (0, 0))) (hw : Kd.R KS 9 W B (fun _ => True) v1 ws) (hl : Kd.R KV 22 W B (fun _ => True) vL es) (m : Nat) (hm : n = (m : Int)) :
    BookS (W.setCell ⟨p, 1, none⟩ v1) B p m v1 vL ws es := by
  subst hm
  have hf : Fr (fun b => b = p) W (W.setCell ⟨p, 1, none⟩ v1) := (Fr.refl (fun b => b = p) W).setCell (.inl rfl) _
  exact ⟨blk_set hb 1 v1, scalar_fr hw hf (fun k hk e => Kd.R_ne hw hb (by decide) (by rw [hk, e])), scalar_fr hl hf (fun k hk e => Kd.R_ne hl hb (by decide) (by rw [hk, e]))⟩
theorem BookS.putN {W : World} {B p n : Nat} {vW vL : Value} {ws : List (List UInt8)} {es : List Slc} (h : BookS W B p n vW vL ws es) (m : Nat) : BookS (W.setCell ⟨p, 0, none⟩ (.int .i64 (m : Int))) B p m vW vL ws es := by
  have hf : Fr (fun b => b = p) W (W.setCell ⟨p, 0, none⟩ (.int .i64 (m : Int))) := (Fr.refl (fun b => b = p) W).setCell (.inl rfl) _
  exact ⟨blk_set h.box 0 _, scalar_fr h.want hf (fun k hk e => Kd.R_ne h.want h.box (by decide) (by rw [hk, e])), scalar_fr h.lists hf (fun k hk e => Kd.R_ne h.lists h.box (by decide) (by rw [hk, e]))⟩
theorem infoStr : (Tryd.prog.info? 9).map (fun i => (i.zero, i.size, i.bytes)) = some (some (.string ByteArray.empty), 1, 16) := by kernel_rfl
theorem app_scalar_step {α : Type} {enc : α → Value} {h1 : ∀ x, (enc x).oneCell' = true} {P : Program} {ops : Array Oper} {o : Oper} {a : Act} {Q : Exit → Act → World → Prop} {W : World} {Kc : Act → World → Prop} (B : Nat) (hw : Region.wanted o (yielded ops a.tmps) = true) (s x : Operand) (t e : TypeId) (z : Value) (bytes : Nat)
    (ho : o.op = .call { callee := .builtin .append, args := #[s, x], argTypes := #[t, t] }) (ht : P.underlying t = some (.slice e))
    (hinfo : (P.info? e).map (fun i => (i.zero, i.size, i.bytes)) = some (some z, 1, bytes)) (hz : z.cells.size = 1) (hby : 0 < bytes)
    (v : Value) (xs ys : List α) (A : Option Addr) (m c : Nat) (hs : a.eval s = v) (hx : a.eval x = .slice A m c)
    (HO : (Kd.scalar enc h1).R e W B (fun _ => True) v xs) (HR : (Kd.scalar enc h1).C W A m ys) (hB : B ≤ W.heap.size) (hl : (xs.length + m) * bytes ≤ 140737488355328)
    (h : ∀ v1 w1, (Kd.scalar enc h1).R e w1 B (fun _ => True) v1 (xs ++ ys) → Fr (fun k => v.ownBlock = some k) W w1 → (v1.ownBlock = v.ownBlock ∨ ∃ b, v1.ownBlock = some b ∧ W.heap.size ≤ b) → Kc (a.put o.dst v1) w1) :
    if Region.wanted o (yielded ops a.tmps) = true then Oper.wp P o a W Kc Q else Kc (a.put o.dst undef) W :=
  Kd.R_append_rows_step (Kd.scalar enc h1) (Rr := (Kd.scalar enc h1).K W) (w0 := W) B hw s x t e z bytes ho ht hinfo hz Nat.one_pos hby v xs ys A m c (fun _ => True) (fun _ => False) hs hx HO HR (fun x cs h => h) (fun _ hk => hk.elim) (fun _ _ => trivial) (Below.refl _ _) hB hl
    fun v1 w1 h1 _ h3 h4 => h v1 w1 h1 ((Fr.refl _ W).grown h3 (fun k hk => .inl hk)) h4
end Go.Proofs.YtbaeddppihjgfaaDoor.Sg
namespace Go.Proofs.YtbaeddppihjgfaaDoor.Sg
open Go Go.RowKit Go.Proofs.YtbaeddppihjgfaaDoorW.PrintWords
set_option linter.unusedVariables false
/-- The book in the midst of take: rows below i have been appended to; element n0 + j is row j. -/
structure TakeI (w wr : World) (B p n0 n N : Nat) (ok : Nat → Prop) (vs : Nat → Value) (M : Nat → List UInt8) (vW vL : Value) (ws : List (List UInt8)) (es : List Slc) (i : Nat) : Prop where
  s : BookS wr B p N vW vL ws es
  okW : ∀ k, vW.ownBlock = some k → ok k ∨ w.heap.size ≤ k
  okL : ∀ k, vL.ownBlock = some k → ok k ∨ w.heap.size ≤ k
  el : ∀ q (h1 : q < es.length) (h2 : q < ws.length), ElemS wr es[q] ws[q]
  sep : ∀ q (h1 : q < es.length) ad, es[q].1 = some ad → ad.block < wr.heap.size ∧ ad.block ≠ p ∧ vW.ownBlock ≠ some ad.block ∧ vL.ownBlock ≠ some ad.block
  eok : ∀ q (h1 : q < es.length) ad, es[q].1 = some ad → ok ad.block ∨ w.heap.size ≤ ad.block ∨ ∃ j, j < n ∧ (vs j).ownBlock = some ad.block ∧ (j < i ∨ q = n0 + j)
  rows : RowsF wr B n vs M
  fr : Fr (fun k => ok k ∨ OwnD n vs k) w wr
theorem BookS.apart {w : World} {B p N : Nat} {vW vL v : Value} {ws : List (List UInt8)} {es : List Slc} {xs : List Int} (h : BookS w B p N vW vL ws es) (hm : Mine w B v xs) (k : Nat) (hk : v.ownBlock = some k) : k < w.heap.size ∧ k ≠ p ∧ vW.ownBlock ≠ some k ∧ vL.ownBlock ≠ some k :=
  ⟨(hm.base k hk).2, fun e => Kd.R_ne hm h.box (by decide) (by rw [hk, e]), fun e => by
    obtain ⟨i1, o1⟩ := Kd.R_own hm
    obtain ⟨i2, o2⟩ := Kd.R_own h.want
    exact ne_types o1 o2 (by decide) k hk e, fun e => by
    obtain ⟨i1, o1⟩ := Kd.R_own hm
    obtain ⟨i2, o2⟩ := Kd.R_own h.lists
    exact ne_types o1 o2 (by decide) k hk e⟩
section
variable {w wr w1 : World} {B p n0 n N : Nat} {ok : Nat → Prop} {vs : Nat → Value} {M : Nat → List UInt8} {vW vL v1 : Value} {ws ls : List (List UInt8)} {es fs : List Slc} {i : Nat}
theorem TakeI.frN (h : TakeI w wr B p n0 n N ok vs M vW vL ws es i) (hf : Fr No wr w1) : TakeI w w1 B p n0 n N ok vs M vW vL ws es i :=
  ⟨h.s.fr hf id (fun _ _ => id) (fun _ _ => id), h.okW, h.okL, fun q h1 h2 => (h.el q h1 h2).frS hf (fun _ _ => id), fun q h1 ad e => by have h3 := h.sep q h1 ad e; have := hf.size; exact ⟨by omega, h3.2⟩, h.eok, h.rows.fr hf (fun _ _ => id), h.fr.then_ hf⟩
/-- Slices behind the list of lists, and the field set. -/
theorem TakeI.addL (h : TakeI w wr B p n0 n N ok vs M vW vL ws es i) (hokp : ok p) (hl : Kd.R KV 22 w1 B (fun _ => True) v1 (es ++ fs)) (hf : Fr (fun k => vL.ownBlock = some k) wr w1) (hat : v1.ownBlock = vL.ownBlock ∨ ∃ b, v1.ownBlock = some b ∧ wr.heap.size ≤ b)
    (hs : ∀ t (ht : t < fs.length) ad, fs[t].1 = some ad → (ad.block < wr.heap.size ∧ ad.block ≠ p ∧ vW.ownBlock ≠ some ad.block ∧ vL.ownBlock ≠ some ad.block) ∧ (ok ad.block ∨ w.heap.size ≤ ad.block ∨ ∃ j, j < n ∧ (vs j).ownBlock = some ad.block ∧ (j < i ∨ es.length + t = n0 + j)))
    (hlen : ws.length ≤ es.length) : TakeI w (w1.setCell ⟨p, 2, none⟩ v1) B p n0 n N ok vs M vW v1 ws (es ++ fs) i := by
  have hz := h.fr.size
  have hz1 := hf.size
  have hpn : ¬ vL.ownBlock = some p := fun e => Kd.R_ne h.s.lists h.s.box (by decide) e.symm
  have hbx : w1.heap[p]? = some (.cells #[.int .i64 (N : Int), vW, vL] 71 (0, 0)) := hf.heap h.s.box hpn
  obtain ⟨i1, oL⟩ := Kd.R_own h.s.lists
  obtain ⟨i2, oW⟩ := Kd.R_own h.s.want
  have hWn : ∀ k, vW.ownBlock = some k → ¬ vL.ownBlock = some k := fun k hk e => ne_types oW oL (by decide) k hk e
  have hf2 : Fr (fun b => b = p) w1 (w1.setCell ⟨p, 2, none⟩ v1) := (Fr.refl (fun b => b = p) w1).setCell (.inl rfl) _
  have hfA : Fr (fun k => k = p ∨ vL.ownBlock = some k) wr (w1.setCell ⟨p, 2, none⟩ v1) := (hf.mono (fun k hk => .inl (.inr hk))).setCell (.inl (.inl rfl)) _
  have hz2 := hf2.size
  have hsp : ∀ ad : Addr, ad.block < wr.heap.size → ad.block ≠ p → vW.ownBlock ≠ some ad.block → vL.ownBlock ≠ some ad.block → ad.block < (w1.setCell ⟨p, 2, none⟩ v1).heap.size ∧ ad.block ≠ p ∧ vW.ownBlock ≠ some ad.block ∧ v1.ownBlock ≠ some ad.block := fun ad h1 h2 h3 h4 => ⟨by omega, h2, h3, fun e => by
    rcases hat with e2 | ⟨b, e2, hb⟩
    · exact h4 (by rw [← e2, e])
    · rw [e2] at e; injection e with e; omega⟩
  refine ⟨BookS.putL hbx (scalar_fr h.s.want hf hWn) hl N rfl, h.okW, fun k hk => ?_, fun q h1 h2 => ?_, fun q h1 ad e => ?_, fun q h1 ad e => ?_, h.rows.fr hfA (fun k hk e => ?_), ?_⟩
  · rcases hat with e2 | ⟨b, e2, hb⟩
    · exact h.okL k (by rw [← e2, hk])
    · rw [e2] at hk; injection hk with hk; right; omega
  · have hq : q < es.length := by omega
    rw [List.getElem_append_left hq]
    exact (h.el q hq h2).frS hfA (fun ad e h3 => by
      have := h.sep q hq ad e
      rcases h3 with h3 | h3
      · exact this.2.1 h3
      · exact this.2.2.2 h3)
  · by_cases hq : q < es.length
    · rw [List.getElem_append_left hq] at e
      have h3 := h.sep q hq ad e
      exact hsp ad h3.1 h3.2.1 h3.2.2.1 h3.2.2.2
    · rw [List.getElem_append_right (by omega)] at e
      have h3 := (hs _ (by rw [List.length_append] at h1; omega) ad e).1
      exact hsp ad h3.1 h3.2.1 h3.2.2.1 h3.2.2.2
  · by_cases hq : q < es.length
    · rw [List.getElem_append_left hq] at e
      exact h.eok q hq ad e
    · rw [List.getElem_append_right (by omega)] at e
      have h3 := (hs _ (by rw [List.length_append] at h1; omega) ad e).2
      rwa [show es.length + (q - es.length) = q by omega] at h3
  · obtain ⟨j, hj, hk⟩ := hk
    have h3 := h.s.apart (h.rows.mine j hj) k hk
    rcases e with e | e
    · exact h3.2.1 e
    · exact h3.2.2.2 e
  · refine h.fr.trans hfA (fun k hk => ?_)
    rcases hk with rfl | hk
    · exact .inl (.inl hokp)
    · rcases h.okL k hk with h3 | h3
      · exact .inl (.inl h3)
      · exact .inr h3
/-- Strings behind the list of strings, and the field set. -/
theorem TakeI.addW (h : TakeI w wr B p n0 n N ok vs M vW vL ws es i) (hokp : ok p) (hl : Kd.R KS 9 w1 B (fun _ => True) v1 (ws ++ ls)) (hf : Fr (fun k => vW.ownBlock = some k) wr w1) (hat : v1.ownBlock = vW.ownBlock ∨ ∃ b, v1.ownBlock = some b ∧ wr.heap.size ≤ b)
    (hs : ∀ t (ht : t < ls.length) (h1 : ws.length + t < es.length), ElemS wr es[ws.length + t] ls[t]) : TakeI w (w1.setCell ⟨p, 1, none⟩ v1) B p n0 n N ok vs M v1 vL (ws ++ ls) es i := by
  have hz := h.fr.size
  have hz1 := hf.size
  have hpn : ¬ vW.ownBlock = some p := fun e => Kd.R_ne h.s.want h.s.box (by decide) e.symm
  have hbx : w1.heap[p]? = some (.cells #[.int .i64 (N : Int), vW, vL] 71 (0, 0)) := hf.heap h.s.box hpn
  obtain ⟨i1, oL⟩ := Kd.R_own h.s.lists
  obtain ⟨i2, oW⟩ := Kd.R_own h.s.want
  have hLn : ∀ k, vL.ownBlock = some k → ¬ vW.ownBlock = some k := fun k hk e => ne_types oL oW (by decide) k hk e
  have hf2 : Fr (fun b => b = p) w1 (w1.setCell ⟨p, 1, none⟩ v1) := (Fr.refl (fun b => b = p) w1).setCell (.inl rfl) _
  have hfA : Fr (fun k => k = p ∨ vW.ownBlock = some k) wr (w1.setCell ⟨p, 1, none⟩ v1) := (hf.mono (fun k hk => .inl (.inr hk))).setCell (.inl (.inl rfl)) _
  have hz2 := hf2.size
  have hel : ∀ {e : Slc} {l : List UInt8}, ElemS wr e l → (∀ ad, e.1 = some ad → ad.block ≠ p ∧ vW.ownBlock ≠ some ad.block) → ElemS (w1.setCell ⟨p, 1, none⟩ v1) e l := fun h1 h2 => h1.frS hfA (fun ad e h3 => by
    rcases h3 with h3 | h3
    · exact (h2 ad e).1 h3
    · exact (h2 ad e).2 h3)
  refine ⟨BookS.putW hbx hl (scalar_fr h.s.lists hf hLn) N rfl, fun k hk => ?_, h.okL, fun q h1 h2 => ?_, fun q h1 ad e => ?_, h.eok, h.rows.fr hfA (fun k hk e => ?_), ?_⟩
  · rcases hat with e2 | ⟨b, e2, hb⟩
    · exact h.okW k (by rw [← e2, hk])
    · rw [e2] at hk; injection hk with hk; right; omega
  · have hsp : ∀ ad, es[q].1 = some ad → ad.block ≠ p ∧ vW.ownBlock ≠ some ad.block := fun ad e => ⟨(h.sep q h1 ad e).2.1, (h.sep q h1 ad e).2.2.1⟩
    by_cases hq : q < ws.length
    · rw [List.getElem_append_left hq]
      exact hel (h.el q h1 hq) hsp
    · rw [List.getElem_append_right (by omega)]
      have h3 := hs (q - ws.length) (by rw [List.length_append] at h2; omega) (by omega)
      simp only [show ws.length + (q - ws.length) = q by omega] at h3
      exact hel h3 hsp
  · have h3 := h.sep q h1 ad e
    refine ⟨by omega, h3.2.1, fun e3 => ?_, h3.2.2.2⟩
    rcases hat with e2 | ⟨b, e2, hb⟩
    · exact h3.2.2.1 (by rw [← e2, e3])
    · rw [e2] at e3; injection e3 with e3; omega
  · obtain ⟨j, hj, hk⟩ := hk
    have h3 := h.s.apart (h.rows.mine j hj) k hk
    rcases e with e | e
    · exact h3.2.1 e
    · exact h3.2.2.1 e
  · refine h.fr.trans hfA (fun k hk => ?_)
    rcases hk with rfl | hk
    · exact .inl (.inl hokp)
    · rcases h.okW k hk with h3 | h3
      · exact .inl (.inl h3)
      · exact .inr h3
/-- The count set. -/
theorem TakeI.setN (h : TakeI w wr B p n0 n N ok vs M vW vL ws es i) (hokp : ok p) (m : Nat) : TakeI w (wr.setCell ⟨p, 0, none⟩ (.int .i64 (m : Int))) B p n0 n m ok vs M vW vL ws es i := by
  have hf : Fr (fun b => b = p) wr (wr.setCell ⟨p, 0, none⟩ (.int .i64 (m : Int))) := (Fr.refl (fun b => b = p) wr).setCell (.inl rfl) _
  exact ⟨h.s.putN m, h.okW, h.okL, fun q h1 h2 => (h.el q h1 h2).frS hf (fun ad e => (h.sep q h1 ad e).2.1), fun q h1 ad e => by have h3 := h.sep q h1 ad e; have := hf.size; exact ⟨by omega, h3.2⟩, h.eok, h.rows.fr hf (fun k hk e => by
    obtain ⟨j, hj, hk⟩ := hk
    exact (h.s.apart (h.rows.mine j hj) k hk).2.1 e), h.fr.trans hf (fun k hk => by subst hk; exact .inl (.inl hokp))⟩
/-- Row i has been appended to. -/
theorem TakeI.grown (h : TakeI w wr B p n0 n N ok vs M vW vL ws es i) (hi : i < n) {g : Value} {m : Nat} (hk : Kept1 wr w1 (vs i) g m) (hm : (M i).length ≤ m) (hD : ∀ k, OwnD n vs k → ¬ ok k) (hlt : ∀ k, OwnD n vs k → k < w.heap.size)
    (hvi : ∀ (h1 : n0 + i < es.length), slcV es[n0 + i] = vs i) (hwi : ∀ (h2 : n0 + i < ws.length), ws[n0 + i] = M i) : TakeI w w1 B p n0 n N ok vs M vW vL ws es i := by
  have hz := hk.fr.size
  have hown : ∀ k, (vs i).ownBlock = some k → OwnD n vs k := fun k hk => ⟨i, hi, hk⟩
  have ha := h.s.apart (h.rows.mine i hi)
  have hmi : Mine w1 B (vs i) (bi (M i)) := hk.old B (vs i) (bi (M i)) (h.rows.mine i hi) rfl (by rw [bi_length]; exact hm)
  have hne : ∀ q (h1 : q < es.length) ad, es[q].1 = some ad → q ≠ n0 + i → ¬ (vs i).ownBlock = some ad.block := fun q h1 ad e hq he => by
    rcases h.eok q h1 ad e with h3 | h3 | ⟨j, hj, h3, h4⟩
    · exact hD _ (hown _ he) h3
    · have := hlt _ (hown _ he); omega
    · by_cases hij : i = j
      · subst hij; omega
      · exact h.rows.sep i j hi hj hij _ he h3
  refine ⟨h.s.fr hk.fr (fun e => (ha _ e).2.1 rfl) (fun k hk e => (ha _ e).2.2.1 hk) (fun k hk e => (ha _ e).2.2.2 hk), h.okW, h.okL, fun q h1 h2 => ?_, fun q h1 ad e => by have h3 := h.sep q h1 ad e; exact ⟨by omega, h3.2⟩, h.eok, ⟨fun j hj => ?_, h.rows.sep⟩, h.fr.trans hk.fr (fun k hk => .inl (.inr (hown k hk)))⟩
  · by_cases hq : q = n0 + i
    · subst hq
      obtain ⟨A, c, e1, e2, e3⟩ := hmi.reads
      have e4 := hvi h1
      rw [e1] at e4
      unfold slcV at e4
      injection e4 with a1 a2 a3
      rw [hwi h2]
      exact ⟨a2, by rw [a3]; exact e2, by rw [a1]; exact e3⟩
    · exact (h.el q h1 h2).frS hk.fr (fun ad e => hne q h1 ad e hq)
  · by_cases hij : j = i
    · subst hij; exact hmi
    · exact (h.rows.mine j hj).fr hk.fr (fun k hk e => h.rows.sep j i hj hi hij k hk e)
theorem TakeI.next (h : TakeI w wr B p n0 n N ok vs M vW vL ws es i) : TakeI w wr B p n0 n N ok vs M vW vL ws es (i + 1) :=
  ⟨h.s, h.okW, h.okL, h.el, h.sep, fun q h1 ad e => (h.eok q h1 ad e).imp id (fun h2 => h2.imp id (fun ⟨j, a, b, c⟩ => ⟨j, a, b, c.imp (fun h => by omega) id⟩)), h.rows, h.fr⟩
end
end Go.Proofs.YtbaeddppihjgfaaDoor.Sg
