/- The law DigestBook: lists of slices that one has made, each row one's own, no two in one block; an append to such a list that keeps what it had. -/
import Derived.Test.YtbaeddppihjgfaaDoorMgBook
namespace Go.Proofs.YtbaeddppihjgfaaDoor.Sg
open Go Go.RowKit Go.Proofs.YtbaeddppihjgfaaDoorW.PrintWords
set_option linter.unusedVariables false
/-- What an append to v (elements of a scalar kind) leaves of the old. -/
structure KeptS {α : Type} (enc : α → Value) (h1 : ∀ x, (enc x).oneCell' = true) (e : Nat) (W w1 : World) (v v1 : Value) (n : Nat) : Prop where
  fr : Fr (fun k => v.ownBlock = some k) W w1
  hat : v1.ownBlock = v.ownBlock ∨ ∃ k, v1.ownBlock = some k ∧ W.heap.size ≤ k
  old : ∀ (b : Nat) (u : Value) (ys : List α), (Kd.scalar enc h1).R e W b (fun _ => True) u ys → u.ownBlock = v.ownBlock → ys.length ≤ n → (Kd.scalar enc h1).R e w1 b (fun _ => True) u ys
section
variable {α : Type} {enc : α → Value} {h1 : ∀ x, (enc x).oneCell' = true} {e : Nat}
theorem KeptS.refl (w : World) (v : Value) (n : Nat) : KeptS enc h1 e w w v v n := ⟨Fr.refl _ _, .inl rfl, fun _ _ _ h _ _ => h⟩
theorem nil_of_ownS {w : World} {b : Nat} {u : Value} {ys : List α} (h : (Kd.scalar enc h1).R e w b (fun _ => True) u ys) (hu : u.ownBlock = none) : u = .slice none 0 0 ∧ ys = [] := by
  have ho := Kd.own_of_R h
  rcases ho.2 with ⟨e, hn⟩ | ⟨g, cap, cur, e, _⟩
  · exact ⟨e, List.eq_nil_of_length_eq_zero hn⟩
  · rw [e] at hu; simp [Value.ownBlock] at hu
theorem ownS_lt {w : World} {b : Nat} {u : Value} {ys : List α} (h : (Kd.scalar enc h1).R e w b (fun _ => True) u ys) (k : Nat) (hk : u.ownBlock = some k) : b ≤ k ∧ k < w.heap.size := by
  obtain ⟨inner, ho⟩ := Kd.R_own h
  exact ⟨own_base ho k hk, own_lt ho k hk⟩
theorem KeptS.trans {w wr w1 : World} {v g v1 : Value} {n n2 : Nat} (h1' : KeptS enc h1 e w wr v g n) (h2 : KeptS enc h1 e wr w1 g v1 n2) (hn : n ≤ n2) : KeptS enc h1 e w w1 v v1 n := by
  have hz := h1'.fr.size
  refine ⟨h1'.fr.trans h2.fr (fun k hk => ?_), ?_, fun b u ys hu he hl => ?_⟩
  · rcases h1'.hat with e | ⟨q, e, hq⟩
    · exact .inl (e ▸ hk)
    · right
      rw [hk] at e
      injection e with e
      omega
  · rcases h2.hat with e | ⟨q, e, hq⟩
    · rw [e]; exact h1'.hat
    · exact .inr ⟨q, e, by omega⟩
  · have hw := h1'.old b u ys hu he hl
    rcases h1'.hat with e | ⟨q, e, hq⟩
    · exact h2.old b u ys hw (he.trans e.symm) (by omega)
    · refine scalar_fr hw h2.fr (fun k hk hS => ?_)
      have := (ownS_lt hu k hk).2
      rw [e] at hS
      injection hS with hS
      omega
theorem KeptS.after {w w1 w2 : World} {v v1 : Value} {n : Nat} (hf : Fr No w w1) (h : KeptS enc h1 e w1 w2 v v1 n) : KeptS enc h1 e w w2 v v1 n :=
  ⟨(hf.mono (fun _ h => h.elim)).trans h.fr (fun k hk => .inl hk), h.hat.imp id (fun ⟨k, e, hk⟩ => ⟨k, e, Nat.le_trans hf.size hk⟩), fun b u ys hu he hl => h.old b u ys (scalar_fr hu hf (fun _ _ => id)) he hl⟩
theorem run_app_keepS {P : Program} (w : World) (t ty : TypeId) (z : Value) (bytes : Nat) (ht : P.underlying t = some (.slice e)) (hinfo : (P.info? e).map (fun i => (i.zero, i.size, i.bytes)) = some (some z, 1, bytes)) (hzc : z.cells.size = 1) (hby : 0 < bytes)
    (base : Nat) (v : Value) (xs : List α) (hown : (Kd.scalar enc h1).R e w base (fun _ => True) v xs) (a : Addr) (c : Nat) (y : α) (hc : w.cell? a = some (enc y)) (hl : (xs.length + 1) * bytes ≤ 140737488355328) (hbase : base ≤ w.heap.size) :
    ∃ v' w', (Builtin.append_ #[t, t] ty #[v, .slice (some a) 1 c]).run P w = .ok v' w' ∧ (Kd.scalar enc h1).R e w' base (fun _ => True) v' (xs ++ [y]) ∧ KeptS enc h1 e w w' v v' xs.length := by
  obtain ⟨i, hi, hzz⟩ := Option.map_eq_some_iff.1 hinfo
  simp only [Prod.mk.injEq] at hzz
  obtain ⟨hz0, hz1, hz2⟩ := hzz
  have hxl : xs.length + 1 ≤ 140737488355328 := Nat.le_trans (Nat.le_mul_of_pos_right _ hby) hl
  have ho := Kd.own_of_R hown
  have hnews : ∀ j u, [enc y][j]? = some u → w.cell? (a.add j) = some u := fun j u hj => by
    match j, hj with
    | 0, hj =>
      obtain rfl : enc y = u := by simpa using hj
      have : a.add 0 = a := by simp [Addr.add]
      rw [this]; exact hc
    | j + 1, hj => simp at hj
  have h1' : ∀ u ∈ [enc y], u.oneCell' = true := fun u hu => by rw [List.mem_singleton.1 hu]; exact h1 y
  obtain ⟨v', w', hr, hown', hg, _, hat⟩ := run_append_own_at (P := P) w base t ty e i z 1 bytes ht hi hz0 hz1 hz2 hzc (by decide) v xs.length _ ho a 1 c [enc y] rfl hnews h1' (by simp only [maxLen]; omega) hl hbase
  have hfr : Fr (fun k => v.ownBlock = some k) w w' := (Fr.refl _ w).grown hg (fun k hk => .inl hk)
  refine ⟨v', w', hr, Kd.R_of_own (by simpa [encs] using hown') (fun _ _ => trivial), hfr, hat.imp id (fun e => ⟨_, e, Nat.le_refl _⟩), ?_⟩
  intro b u ys hu he hle
  rcases ho.2 with ⟨rfl, hn⟩ | ⟨g, cap, cur, rfl, hbg, hgb, hnc, hcm, hcs, htk⟩
  · obtain ⟨rfl, rfl⟩ := nil_of_ownS hu he
    exact Kd.R_nil _ _ _ _ _
  · have hou := Kd.own_of_R hu
    rcases hou.2 with ⟨rfl, _⟩ | ⟨g', cap', cur', rfl, hbg', hgb', hnc', hcm', hcs', htk'⟩
    · simp [Value.ownBlock] at he
    · obtain rfl : g' = g := by simpa [Value.ownBlock] using he
      obtain ⟨rfl, -⟩ : cur = cur' ∧ True := by rw [hgb] at hgb'; simpa using hgb'
      by_cases hroom : xs.length + 1 ≤ cap
      · have hr2 := run_append_room (P := P) w t ty e i ht hi g' xs.length cap cur hgb a 1 c [enc y] (by rw [hz1]; rfl) hnews h1' hroom (by rw [hz1]; simp; omega)
        rw [hr] at hr2
        obtain ⟨rfl, rfl⟩ : _ ∧ _ := by simpa only [Result.ok.injEq] using hr2
        refine Kd.R_of_own ⟨hou.1, .inr ⟨g', cap', _, rfl, hbg', setRow_heap w g' cur _ e _ hgb, hnc', hcm', ?_, ?_⟩⟩ (fun _ _ => trivial)
        · simp only [List.size_toArray, List.length_append, List.length_take, List.length_drop, Array.length_toList, hz1, List.length_cons, List.length_nil]
          omega
        · rw [← htk']
          simp only [hz1, Nat.mul_one, List.append_assoc]
          rw [List.take_append_of_le_length (by rw [List.length_take, show cur.toList.length = cap by simpa using hcs]; omega), List.take_take, Nat.min_eq_left hle]
      · have holds : ∀ j u, (encs enc xs)[j]? = some u → w.cell? ((⟨g', 0, none⟩ : Addr).add j) = some u := ho.cells (g := g') rfl
        have hr2 := run_append_grow (P := P) w t ty e i z ht hi hz0 ⟨g', 0, none⟩ xs.length cap (encs enc xs) (by rw [encs_length, hz1]; omega) holds a 1 c [enc y] (by rw [hz1]; rfl) hnews (by omega) (by omega) (growslice_fits (by omega) (by rw [hz2]; exact hl))
        rw [hr] at hr2
        obtain ⟨rfl, rfl⟩ : _ ∧ _ := by simpa only [Result.ok.injEq] using hr2
        exact scalar_fr hu ((Fr.refl No w).drew.alloc _) (fun _ _ => id)
theorem app_keepS {P : Program} {ops : Array Oper} {rest : List Oper} {o : Oper} {a : Act} {Q : Exit → Act → World → Prop} {W : World} {base : Nat} (hgd : o.guard = none) (s x : Operand) (t : TypeId) (z : Value) (bytes : Nat)
    (ho : o.op = .call { callee := .builtin .append, args := #[s, x], argTypes := #[t, t] }) (ht : P.underlying t = some (.slice e))
    (hinfo : (P.info? e).map (fun i => (i.zero, i.size, i.bytes)) = some (some z, 1, bytes)) (hzc : z.cells.size = 1) (hby : 0 < bytes)
    (v : Value) (xs : List α) (y : α) (H : Nat) (hH : W.heap.size = H) (hs : a.eval s = v) (hx : a.eval x = .slice (some ⟨H, 0, none⟩) 1 1)
    (HO : (Kd.scalar enc h1).R e W base (fun _ => True) v xs) (hB : base ≤ W.heap.size) (hl : (xs.length + 1) * bytes ≤ 140737488355328)
    (h : ∀ v1 w1, (Kd.scalar enc h1).R e w1 base (fun _ => True) v1 (xs ++ [y]) → KeptS enc h1 e W w1 v v1 xs.length → wpList P ops Q rest (a.put o.dst v1) w1) :
    wpList P ops Q (o :: rest) a (W.alloc (.cells #[enc y] e)) := by
  subst hH
  refine wpList_plain hgd fun K hK => ?_
  have hf : Fr No W (W.alloc (.cells #[enc y] e)) := (Fr.refl No W).alloc _
  have hz : (W.alloc (.cells #[enc y] e)).heap.size = W.heap.size + 1 := by simp
  have hcl : (W.alloc (.cells #[enc y] e)).cell? ⟨W.heap.size, 0, none⟩ = some (enc y) := by rw [World.cell?_alloc_mark]; simp
  obtain ⟨v', w', hr, h2, h3⟩ := run_app_keepS (P := P) (h1 := h1) _ t o.type z bytes ht hinfo hzc hby base v xs (scalar_fr HO hf (fun _ _ => id)) ⟨W.heap.size, 0, none⟩ 1 y hcl hl (by omega)
  unfold Oper.wp execOp
  simp only [ho, resolve, invoke, builtin, Sem.run_bind, Sem.run_pure, Result.andThen_ok, List.map_toArray, List.map_cons, List.map_nil, hs, hx, hr]
  refine hK _ _ (h v' w' h2 ⟨(hf.mono (fun _ h => h.elim)).trans h3.fr (fun k hk => .inl hk), h3.hat.imp id (fun ⟨k, e, hk⟩ => ⟨k, e, by omega⟩), fun b u ys hu he hle => h3.old b u ys (scalar_fr hu hf (fun _ _ => id)) he hle⟩)
end
/-! ### lists of slices -/
def slcOf2 : Value → Slc
  | .slice a l c => (a, l, c)
  | _ => (none, 0, 0)
theorem slcOf2_mine {w : World} {B : Nat} {v : Value} {l : List UInt8} (h : Mine w B v (bi l)) : slcV (slcOf2 v) = v := by
  obtain ⟨A, c, rfl, _⟩ := h.reads
  rfl
/-- Row q of a list. -/
def rowV (es : List Slc) (q : Nat) : Value := slcV (es.getD q (none, 0, 0))
def rowL (ls : List (List UInt8)) (q : Nat) : List UInt8 := ls.getD q []
structure LstV (w : World) (B : Nat) (v : Value) (es : List Slc) (ls : List (List UInt8)) : Prop where
  len : es.length = ls.length
  arr : Kd.R KV 22 w B (fun _ => True) v es
  rows : RowsF w B ls.length (rowV es) (rowL ls)
theorem rowV_at (es : List Slc) (q : Nat) (h : q < es.length) : rowV es q = slcV es[q] := by unfold rowV; simp [List.getElem?_eq_getElem h]
theorem rowL_at (ls : List (List UInt8)) (q : Nat) (h : q < ls.length) : rowL ls q = ls[q] := by unfold rowL; simp [List.getElem?_eq_getElem h]
theorem LOwn.lst {w : World} {base : Nat} {v : Value} {ls : LL2} (h : LOwn w base v ls) : ∃ es, LstV w base v es ls := by
  obtain ⟨f, h0, inner, ho, hr⟩ := h
  have hil : inner.length = ls.length := by have := hr.1; simpa [Kd.tag, KB, Kd.slice] using this
  have hM : ∀ j (hj : j < ls.length), ∃ u, inner[j]? = some u ∧ Kd.R (Kd.int .u8) 5 w base (fun k => base ≤ k ∧ some k ≠ v.ownBlock ∧ f k = j) u (bi ls[j]) := fun j hj => by
    have h2 := hr.2 j (bi ls[j], j) (by rw [List.getElem?_zipIdx]; simp [List.getElem?_eq_getElem hj])
    obtain ⟨u, hu, hm⟩ := h2
    refine ⟨u, ?_, Kd.R_mono hm (fun k hk => ⟨hk.1.1, hk.1.2, hk.2⟩)⟩
    have h3 := congrArg (fun l : List Value => l[0]?) hu
    simp only [List.getElem?_cons_zero] at h3
    rw [List.getElem?_take_of_lt (by simp [Kd.tag, KB, Kd.slice]), List.getElem?_drop] at h3
    simpa [Kd.tag, KB, Kd.slice] using h3
  refine ⟨inner.map slcOf2, by rw [List.length_map, hil], ?_, ?_, ?_⟩
  · refine Kd.R_of_own (enc := slcV) (h1 := fun _ => rfl) ?_ (fun _ _ => trivial)
    have he : encs slcV (inner.map slcOf2) = inner := by
      unfold encs
      rw [List.map_map]
      refine List.ext_getElem (by simp) (fun j h1 h2 => ?_)
      rw [List.getElem_map]
      obtain ⟨u, hu, hm⟩ := hM j (by omega)
      have h3 : inner[j] = u := by
        rw [List.getElem?_eq_getElem h2] at hu
        exact Option.some.inj hu
      rw [h3]
      exact slcOf2_mine (Kd.R_mono hm (fun _ _ => trivial))
    rw [he, List.length_map, hil]
    simpa [Kd.tag, KB, Kd.slice] using ho
  · intro j hj
    obtain ⟨u, hu, hm⟩ := hM j hj
    have hm2 : Mine w base u (bi ls[j]) := Kd.R_mono hm (fun _ _ => trivial)
    have e1 : rowV (inner.map slcOf2) j = u := by
      rw [rowV_at _ _ (by rw [List.length_map]; omega), List.getElem_map]
      have h3 : inner[j]'(by omega) = u := by
        rw [List.getElem?_eq_getElem (by omega)] at hu
        exact Option.some.inj hu
      rw [h3]
      exact slcOf2_mine hm2
    rw [e1, rowL_at _ _ hj]
    exact hm2
  · intro i j hi hj hij k hk hk2
    have key : ∀ i (hi : i < ls.length), (rowV (inner.map slcOf2) i).ownBlock = some k → f k = i := fun i hi hk => by
      obtain ⟨u, hu, hm⟩ := hM i hi
      have e1 : rowV (inner.map slcOf2) i = u := by
        rw [rowV_at _ _ (by rw [List.length_map]; omega), List.getElem_map]
        have h3 : inner[i]'(by omega) = u := by
          rw [List.getElem?_eq_getElem (by omega)] at hu
          exact Option.some.inj hu
        rw [h3]
        exact slcOf2_mine (Kd.R_mono hm (fun _ _ => trivial))
      rw [e1] at hk
      exact (hm.1 k hk).2.2
    exact hij ((key i hi hk).symm.trans (key j hj hk2))
section
variable {S : Nat → Prop} {w w1 : World} {B : Nat} {v : Value} {es : List Slc} {ls : List (List UInt8)}
/-- The blocks of a list and of its rows. -/
def OwnL (v : Value) (es : List Slc) (n k : Nat) : Prop := v.ownBlock = some k ∨ OwnD n (rowV es) k
theorem LstV.fr (h : LstV w B v es ls) (hf : Fr S w w1) (hS : ∀ k, OwnL v es ls.length k → ¬ S k) : LstV w1 B v es ls :=
  ⟨h.len, scalar_fr h.arr hf (fun k hk => hS k (.inl hk)), h.rows.fr hf (fun k hk => hS k (.inr hk))⟩
theorem LstV.base (h : LstV w B v es ls) {k : Nat} (hk : OwnL v es ls.length k) : B ≤ k ∧ k < w.heap.size := by
  rcases hk with hk | hk
  · exact ownS_lt h.arr k hk
  · exact h.rows.lt hk
/-- The array lies in no row's block. -/
theorem LstV.arr_ne (h : LstV w B v es ls) (k : Nat) (hk : v.ownBlock = some k) : ¬ OwnD ls.length (rowV es) k := fun ⟨j, hj, hk2⟩ => by
  obtain ⟨i1, o1⟩ := Kd.R_own h.arr
  obtain ⟨i2, o2⟩ := Kd.R_own (h.rows.mine j hj)
  exact ne_types o1 o2 (by decide) k hk hk2
theorem LstV.cell (h : LstV w B v es ls) : ∃ A c, v = .slice A ls.length c ∧ ls.length ≤ c ∧ ∀ i, i < ls.length → ∃ ad, A = some ad ∧ w.cell? (ad.add i) = some (rowV es i) := by
  obtain ⟨A, c, hv, hc, hr⟩ := Kd.R_reads h.arr
  rw [h.len] at hv hc
  refine ⟨A, c, hv, hc, fun i hi => ?_⟩
  obtain ⟨ad, e, hcl⟩ := scalar_at hr i (by rw [h.len]; exact hi)
  exact ⟨ad, e, by rw [hcl, rowV_at _ _ (by rw [h.len]; exact hi)]⟩
end
end Go.Proofs.YtbaeddppihjgfaaDoor.Sg
namespace Go.Proofs.YtbaeddppihjgfaaDoor.Sg
open Go Go.RowKit Go.Proofs.YtbaeddppihjgfaaDoorW.PrintWords
set_option linter.unusedVariables false
/-- n lists of slices, each an array of its own. -/
structure ArrF (w : World) (B n : Nat) (vs : Nat → Value) (es : Nat → List Slc) : Prop where
  mine : ∀ j, j < n → Kd.R KV 22 w B (fun _ => True) (vs j) (es j)
  sep : ∀ i j, i < n → j < n → i ≠ j → NeRow (vs i) (vs j)
section
variable {w w' : World} {B n : Nat} {vs : Nat → Value} {es es' : Nat → List Slc} {S : Nat → Prop}
theorem ArrF.congr (h : ArrF w B n vs es) (he : ∀ j, j < n → es j = es' j) : ArrF w B n vs es' := ⟨fun j hj => by rw [← he j hj]; exact h.mine j hj, h.sep⟩
theorem ArrF.fr (h : ArrF w B n vs es) (hf : Fr S w w') (hS : ∀ k, OwnD n vs k → ¬ S k) : ArrF w' B n vs es := ⟨fun j hj => scalar_fr (h.mine j hj) hf (fun k hk => hS k ⟨j, hj, hk⟩), h.sep⟩
theorem ArrF.lt (h : ArrF w B n vs es) {k : Nat} (hk : OwnD n vs k) : B ≤ k ∧ k < w.heap.size := by
  obtain ⟨j, hj, e⟩ := hk
  exact ownS_lt (h.mine j hj) k e
theorem ArrF.form (h : ArrF w B n vs es) (i : Nat) (hi : i < n) (hp : 0 < (es i).length) : ∃ g c, vs i = .slice (some ⟨g, 0, none⟩) (es i).length c ∧ OwnD n vs g := by
  obtain ⟨g, c, hv, _, hg, hc⟩ := Kd.R_form (h.mine i hi) hp
  exact ⟨g, c, hv, ⟨i, hi, by rw [hv]; simp [Value.ownBlock]⟩⟩
theorem ArrF.put (h : ArrF w B n vs es) (i : Nat) (hi : i < n) (k : Nat) (hk : k < (es i).length) {g c : Nat} (hv : vs i = .slice (some ⟨g, 0, none⟩) (es i).length c) (y : Slc) :
    (∃ u, w.cell? ⟨g, k, none⟩ = some u) ∧ w.frozen? ⟨g, k, none⟩ = false ∧ ArrF (w.setCell ⟨g, k, none⟩ (slcV y)) B n vs (fun j => if j = i then (es i).set k y else es j) := by
  have hm := h.mine i hi
  rw [hv] at hm
  obtain ⟨hc, hf⟩ := Kd.R_celln (none, 0, 0) hm (k : Int) (by omega) (by omega)
  have hp := Kd.R_putn hm (k : Int) y
  simp only [Int.toNat_natCast] at hc hf hp
  refine ⟨⟨_, hc⟩, hf, fun j hj => ?_, h.sep⟩
  by_cases e : j = i
  · subst e
    simp only [if_pos]
    rw [hv]
    exact hp
  · simp only [if_neg e]
    refine scalar_fr (S := fun b => b = g) (h.mine j hj) ((Fr.refl (fun b => b = g) w).setCell (.inl rfl) _) (fun q hq hqg => ?_)
    exact h.sep j i hj hi e q hq (by rw [hv, hqg]; simp [Value.ownBlock])
theorem ArrF.at_ (h : ArrF w B n vs es) (i : Nat) (hi : i < n) (k : Nat) (hk : k < (es i).length) {A : Option Addr} {m c : Nat} (hv : vs i = .slice A m c) : ∃ ad, A = some ad ∧ w.cell? (ad.add k) = some (slcV (es i)[k]) := by
  obtain ⟨A2, c2, hv2, _, hr⟩ := Kd.R_reads (h.mine i hi)
  rw [hv] at hv2
  injection hv2 with e1 e2 e3
  subst e1
  exact scalar_at hr k hk
end
/-- The mark of entry q of list j. -/
def mk4 (j q : Nat) : List UInt8 := [UInt8.ofNat j, UInt8.ofNat (j / 256), UInt8.ofNat q, UInt8.ofNat (q / 256)]
theorem u8_of (n : Nat) : ((UInt8.ofNat n).toNat : Int) = (n : Int) % 256 := by rw [UInt8.toNat_ofNat']; simp
theorem u8_of2 (n : Nat) : ((UInt8.ofNat (n / 256)).toNat : Int) = (n : Int) / 256 % 256 := by rw [UInt8.toNat_ofNat']; simp
/-- The lists below i are full of marks, list i up to k. -/
structure GrI (w wr : World) (B n : Nat) (vs : Nat → Value) (es0 es : Nat → List Slc) (i k : Nat) : Prop where
  arr : ArrF wr B n vs es
  len : ∀ j, (es j).length = (es0 j).length
  fr : Fr (OwnD n vs) w wr
  mark : ∀ j, j < n → ∀ q (h : q < (es j).length), (j < i ∨ j = i ∧ q < k) → ElemS wr (es j)[q] (mk4 j q) ∧ ∀ ad, (es j)[q].1 = some ad → w.heap.size ≤ ad.block
theorem GrI.next {w wr : World} {B n : Nat} {vs : Nat → Value} {es0 es : Nat → List Slc} {i : Nat} (h : GrI w wr B n vs es0 es i (es0 i).length) : GrI w wr B n vs es0 es (i + 1) 0 :=
  ⟨h.arr, h.len, h.fr, fun j hj q hq hc => h.mark j hj q hq (by
    by_cases e : j = i
    · subst e; right; exact ⟨rfl, by rw [← h.len]; exact hq⟩
    · left; omega)⟩
/-- One more mark. -/
theorem GrI.put {w wr : World} {B n : Nat} {vs : Nat → Value} {es0 es : Nat → List Slc} {i k : Nat} (h : GrI w wr B n vs es0 es i k) (hi : i < n) (hk : k < (es i).length) (hlt : ∀ b, OwnD n vs b → b < w.heap.size) {g c : Nat} (hv : vs i = .slice (some ⟨g, 0, none⟩) (es i).length c)
    {w1 : World} (hf : Fr No wr w1) {y : Slc} (hy : ElemS w1 y (mk4 i k)) (hn : ∀ ad, y.1 = some ad → wr.heap.size ≤ ad.block) :
    (∃ u, w1.cell? ⟨g, k, none⟩ = some u) ∧ w1.frozen? ⟨g, k, none⟩ = false ∧ ∃ es', GrI w (w1.setCell ⟨g, k, none⟩ (slcV y)) B n vs es0 es' i (k + 1) := by
  obtain ⟨a1, a2, a3⟩ := (h.arr.fr hf (fun _ _ => id)).put i hi k hk hv y
  have hg : OwnD n vs g := ⟨i, hi, by rw [hv]; simp [Value.ownBlock]⟩
  have hgl := hlt g hg
  have hz := h.fr.size
  have hfs : Fr (fun b => b = g) w1 (w1.setCell ⟨g, k, none⟩ (slcV y)) := (Fr.refl (fun b => b = g) w1).setCell (.inl rfl) _
  refine ⟨a1, a2, _, a3, fun j => ?_, (h.fr.then_ hf).setCell (.inl hg) _, fun j hj q hq hc => ?_⟩
  · by_cases e : j = i
    · subst e; simp only [if_pos]; rw [List.length_set]; exact h.len j
    · simp only [if_neg e]; exact h.len j
  · have hold : ∀ (hq2 : q < (es j).length), (j < i ∨ j = i ∧ q < k) → ElemS (w1.setCell ⟨g, k, none⟩ (slcV y)) (es j)[q] (mk4 j q) ∧ ∀ ad, (es j)[q].1 = some ad → w.heap.size ≤ ad.block := fun hq2 hc2 => by
      obtain ⟨b1, b2⟩ := h.mark j hj q hq2 hc2
      exact ⟨(b1.frS hf (fun _ _ => id)).frS hfs (fun ad e e2 => by have := b2 ad e; omega), b2⟩
    by_cases e : j = i
    · subst e
      simp only [if_pos] at hq ⊢
      rw [List.length_set] at hq
      by_cases e2 : q = k
      · subst e2
        simp only [List.getElem_set_self]
        exact ⟨hy.frS hfs (fun ad e e2 => by have := hn ad e; omega), fun ad e => by have := hn ad e; omega⟩
      · rw [List.getElem_set_ne (fun h => e2 h.symm)]
        exact hold hq (by omega)
    · simp only [if_neg e] at hq ⊢
      exact hold hq (by omega)
theorem same_callsN4 (a : List UInt8) (n : Nat) (hn : a.length = n) (A B : Option Addr) (c d : Nat) (w : World) (ha : Rb w A a) (hb : Rb w B a) :
    Calls Tryd.prog 23 #[.slice A n c, .slice B n d] w fun e w' => e = .returned (.bool true) ∧ w = w' := by
  subst hn
  exact (same_calls a a A B c d w ha hb).mono fun e w' ⟨he, hw⟩ => ⟨by rw [he, decide_eq_true rfl], hw⟩
theorem elem4 (W : World) (x k : Nat) (hx : x < 65536) (hk : k < 65536) : ElemS (W.alloc (.cells #[.int .u8 ((x : Int) % 256), .int .u8 ((x : Int) / 256), .int .u8 ((k : Int) % 256), .int .u8 ((k : Int) / 256)] 5)) (some ⟨W.heap.size, 0, none⟩, 4, 4) (mk4 x k) := by
  refine ⟨rfl, by simp [mk4], Rb_of_cells (by simp [mk4]) (fun j hj => ?_)⟩
  have hj4 : j < 4 := hj
  have : j = 0 ∨ j = 1 ∨ j = 2 ∨ j = 3 := by omega
  rw [World.cell?_alloc_mark]
  rcases this with rfl | rfl | rfl | rfl
  · simp [mk4]
  · simp [mk4]; omega
  · simp [mk4]
  · simp [mk4]; omega
set_option maxRecDepth 100000 in
set_option maxHeartbeats 4000000 in
theorem grownLists_calls (w : World) (B n : Nat) (A : Option Addr) (c : Nat) (vs : Nat → Value) (es : Nat → List Slc) (hr : ArrF w B n vs es) (hA : ∀ i, i < n → ∃ ad, A = some ad ∧ w.cell? (ad.add i) = some (vs i)) (hAf : ∀ ad, A = some ad → ¬ OwnD n vs ad.block)
    (hn : n ≤ 60000) (hl : ∀ j, (es j).length ≤ 60000) (hB : B ≤ w.heap.size) :
    Calls Tryd.prog 53 #[.slice A n c] w fun e w' => e = .returned (.bool true) ∧ Fr (OwnD n vs) w w' := by
  have HA : Aside0 (∀ wr, Fr (OwnD n vs) w wr → ∀ i, i < n → ∃ ad, A = some ad ∧ wr.cell? (ad.add i) = some (vs i)) := ⟨fun wr hf i hi => by
    obtain ⟨ad, e, hc⟩ := hA i hi
    exact ⟨ad, e, hf.cell hc (by rw [blk_of_add]; exact hAf ad e)⟩⟩
  have HL := Aside0.mk hl
  have HLT : Aside0 (∀ b, OwnD n vs b → b < w.heap.size) := ⟨fun b hb => (hr.lt hb).2⟩
  have HG0 : Aside0 (∃ es', GrI w w B n vs es es' 0 0) := ⟨es, hr, fun _ => rfl, Fr.refl _ _, fun j hj q h hc => by omega⟩
  clear hr hA hAf hl
  go_enter Tryd.func53, Tryd.ntmps53
  go_wp2_with fail
  go_loopw [3, 4] (fun i4 s4 wr => ∃ x : Nat, x ≤ n ∧ i4 = .int .i64 x ∧ Aside0 (∃ es', GrI w wr B n vs es es' x 0)) (fun i _ _ => n - (intOf i).toNat)
  case atStart => exact ⟨0, by omega, rfl, HG0⟩
  case round =>
    clear HG0
    obtain ⟨x, hx, rfl, HG⟩ := hrel
    by_cases hlt : x < n
    · have hxi : (x : Int) < (n : Int) := by omega
      obtain ⟨ad, hAe, -⟩ := HA.out w (Fr.refl _ _) x hlt
      subst hAe
      obtain ⟨len, hlen⟩ : ∃ len, (es x).length = len := ⟨_, rfl⟩
      have HLEN := Aside0.mk hlen
      have hlm : len ≤ 60000 := by rw [← hlen]; exact HL.out x
      have HVX : Aside0 (∃ Ax cx, vs x = .slice Ax len cx) := ⟨by
        obtain ⟨es', hG⟩ := HG.out
        obtain ⟨Ax, cx, hv, -, -⟩ := Kd.R_reads (hG.arr.mine x hlt)
        exact ⟨Ax, cx, by rw [hv, hG.len, HLEN.out]⟩⟩
      obtain ⟨Ax, cx, hvx⟩ := HVX.out
      have HVE := Aside0.mk hvx
      have HCA : Aside0 (∀ wr, Fr (OwnD n vs) w wr → wr.cell? (ad.add x) = some (.slice Ax len cx)) := ⟨fun wr hf => by
        obtain ⟨ad2, e, hc⟩ := HA.out wr hf x hlt
        obtain rfl := Option.some.inj e
        rw [hc, HVE.out]⟩
      clear hlen hvx HVX
      go_wp2_with fail
      go_loopw [4] (fun i4 wr => ∃ k : Nat, k ≤ len ∧ i4 = .int .i64 k ∧ Aside0 (∃ es', GrI w wr B n vs es es' x k)) (fun i _ => len - (intOf i).toNat)
      case atStart => exact ⟨0, by omega, rfl, HG⟩
      case round =>
        clear HG
        obtain ⟨k, hk, rfl, HG⟩ := hrel
        obtain ⟨es', hG⟩ := HG.out
        have hca := HCA.out _ hG.fr
        by_cases hkl : k < len
        · have hki : (k : Int) < (len : Int) := by omega
          obtain ⟨g, cg, hvg, hgd⟩ := hG.arr.form x hlt (by rw [hG.len, HLEN.out]; omega)
          rw [hG.len, HLEN.out, HVE.out] at hvg
          obtain rfl : Ax = some ⟨g, 0, none⟩ := by injection hvg
          have hp := hG.put hlt (by rw [hG.len, HLEN.out]; exact hkl) HLT.out (by rw [HVE.out, hG.len, HLEN.out]) ((Fr.refl No wr).alloc _) (elem4 wr x k (by omega) (by omega)) (fun ad e => by injection e with e; subst e; exact Nat.le_refl _)
          obtain ⟨⟨u, hcu⟩, hfu, hnew⟩ := hp
          have HNEW : Aside0 (∃ es', GrI w ((wr.alloc (.cells #[.int .u8 ((x : Int) % 256), .int .u8 ((x : Int) / 256), .int .u8 ((k : Int) % 256), .int .u8 ((k : Int) / 256)] 5)).setCell ⟨g, k, none⟩ (.slice (some ⟨wr.heap.size, 0, none⟩) 4 4)) B n vs es es' x (k + 1)) := ⟨hnew⟩
          clear hG hvg hnew HG
          go_wp2_with fail
          exact ⟨⟨k + 1, by omega, by go_num, HNEW⟩, by simp [intOf]; omega⟩
        · obtain rfl : k = len := by omega
          have HN : Aside0 (∃ es', GrI w wr B n vs es es' (x + 1) 0) := ⟨es', by rw [← HLEN.out] at hG; exact hG.next⟩
          clear hG HG
          go_wp2_with fail
          exact ⟨⟨x + 1, by omega, by go_num, HN⟩, by simp [intOf]; omega⟩
    · obtain rfl : x = n := by omega
      obtain ⟨em, hG⟩ := HG.out
      have HM := Aside0.mk hG.mark
      have HLM : Aside0 (∀ j, (em j).length ≤ 60000) := ⟨fun j => by rw [hG.len]; exact HL.out j⟩
      have HF := Aside0.mk hG.fr
      have HR0 := Aside0.mk hG.arr
      clear hG HG
      go_wp2_with fail
      go_loopw [5, 6, 7] (fun i5 s6 s7 w2 => ∃ y : Nat, y ≤ x ∧ i5 = .int .i64 y ∧ Aside0 (ArrF w2 B x vs em) ∧ Aside0 (Fr (OwnD x vs) wr w2)) (fun i _ _ _ => x - (intOf i).toNat)
      case atStart => exact ⟨0, by omega, rfl, HR0, ⟨Fr.refl _ _⟩⟩
      case round =>
        clear HR0
        rename World => w2
        obtain ⟨y, hy, rfl, HR, HF2⟩ := hrel
        by_cases hlt : y < x
        · have hyi : (y : Int) < (x : Int) := by omega
          have hf := HF.out.trans HF2.out (fun k hk => .inl hk)
          obtain ⟨ad, hAe, hca⟩ := HA.out w2 hf y hlt
          subst hAe
          obtain ⟨len, hlen⟩ : ∃ len, (em y).length = len := ⟨_, rfl⟩
          have HLEN := Aside0.mk hlen
          have hlm : len ≤ 60000 := by rw [← hlen]; exact HLM.out y
          obtain ⟨Ay, cy, hvy, -, -⟩ := Kd.R_reads (HR.out.mine y hlt)
          rw [hlen] at hvy
          have HVE := Aside0.mk hvy
          have HCA : Aside0 (∀ w3, Fr (fun k => (vs y).ownBlock = some k) w2 w3 → w3.cell? (ad.add y) = some (.slice Ay len cy)) := ⟨fun w3 hf3 => by
            obtain ⟨ad2, e, hc⟩ := HA.out w3 (hf.trans hf3 (fun k hk => .inl ⟨y, hlt, hk⟩)) y hlt
            obtain rfl := Option.some.inj e
            rw [hc, HVE.out]⟩
          have HG0 : Aside0 (∃ fs : List Slc, fs.length = 0 ∧ Kd.R KV 22 w2 B (fun _ => True) (.slice Ay len cy) (em y ++ fs) ∧ KeptS slcV (fun _ => rfl) 22 w2 w2 (vs y) (.slice Ay len cy) (em y).length) := ⟨[], rfl, by rw [List.append_nil, ← HVE.out]; exact HR.out.mine y hlt, by rw [← HVE.out]; exact KeptS.refl _ _ _⟩
          rw [hvy] at hca
          clear hvy hlen hf
          have HB2 : Aside0 (B ≤ w2.heap.size) := ⟨by have := HF.out.size; have := HF2.out.size; omega⟩
          go_wp2_with fail
          go_loopw [6, 7] (fun g i7 w3 => ∃ k : Nat, k ≤ 70 ∧ i7 = .int .i64 k ∧ Aside0 (∃ fs : List Slc, fs.length = k ∧ Kd.R KV 22 w3 B (fun _ => True) g (em y ++ fs) ∧ KeptS slcV (fun _ => rfl) 22 w2 w3 (vs y) g (em y).length)) (fun _ i _ => 70 - (intOf i).toNat)
          case atStart => exact ⟨0, by omega, rfl, HG0⟩
          case round =>
            clear HG0
            rename World => w3
            obtain ⟨k, hk, rfl, HG⟩ := hrel
            by_cases hkl : k < 70
            · have hki : (k : Int) < 70 := by omega
              obtain ⟨fs, hfs, hg, hkp⟩ := HG.out
              have HFS := Aside0.mk hfs; have HKP := Aside0.mk hkp
              have HGW : Aside0 (∀ W, Fr No w3 W → Kd.R KV 22 W B (fun _ => True) u6 (em y ++ fs)) := ⟨fun W hf => scalar_fr hg hf (fun _ _ => id)⟩
              have HBZ : Aside0 (∀ W, Fr No w3 W → B ≤ W.heap.size) := ⟨fun W hf => by have := hf.size; have := HKP.out.fr.size; have := HB2.out; omega⟩
              have HLL : Aside0 (((em y ++ fs).length + 1) * 24 ≤ 140737488355328) := ⟨by rw [List.length_append, HLEN.out, HFS.out]; omega⟩
              clear hfs hg hkp HG
              go_wp2_with (at_builtin; refine app_keepS (enc := slcV) (h1 := fun _ => rfl) (base := B) rfl (.tmp 56) (.tmp 62) 34 (.slice none 0 0) 24 rfl Tryd.underlying34 infoRow rfl (by decide) _ (em y ++ fs) ((some ⟨w3.heap.size, 0, none⟩, 3, 3) : Slc) (w3.heap.size + 1) (by simp) rfl rfl (HGW.out _ ((Fr.refl No w3).alloc _)) (HBZ.out _ ((Fr.refl No w3).alloc _)) HLL.out ?_
                           intro v1 w4 hm hk4
                           have HN : Aside0 (∃ fs : List Slc, fs.length = k + 1 ∧ Kd.R KV 22 w4 B (fun _ => True) v1 (em y ++ fs) ∧ KeptS slcV (fun _ => rfl) 22 w2 w4 (vs y) v1 (em y).length) := ⟨fs ++ [((some ⟨w3.heap.size, 0, none⟩, 3, 3) : Slc)], by rw [List.length_append, HFS.out]; rfl, by rw [← List.append_assoc]; exact hm, HKP.out.trans (KeptS.after ((Fr.refl No w3).alloc _) hk4) (by rw [List.length_append]; omega)⟩
                           clear hm hk4)
              exact ⟨⟨k + 1, by omega, by go_num, HN⟩, by simp [intOf]; omega⟩
            · have hki : ¬ (k : Int) < 70 := by omega
              have HK70 : Aside0 (k = 70) := ⟨by omega⟩
              obtain ⟨fs, hfs, hg, hkp⟩ := HG.out
              obtain ⟨Ag, cg, hge, -, -⟩ := Kd.R_reads hg
              rw [List.length_append, HLEN.out, hfs, HK70.out] at hge
              have hca3 := HCA.out w3 hkp.fr
              have HRN : Aside0 (ArrF w3 B x vs em) := ⟨fun j hj => by
                by_cases e : j = y
                · subst e; exact hkp.old B _ _ (HR.out.mine j hj) rfl (Nat.le_refl _)
                · exact scalar_fr (HR.out.mine j hj) hkp.fr (fun k hk e2 => HR.out.sep j y hj hlt e k hk e2), HR.out.sep⟩
              have HFN : Aside0 (Fr (OwnD x vs) wr w3) := ⟨HF2.out.trans hkp.fr (fun k hk => .inl ⟨y, hlt, hk⟩)⟩
              subst hge
              have hl70 : ((len + 70 : Nat) : Int) = (len : Int) + 70 := by push_cast; rfl
              have hd70 : decide (((len : Int) + 70) = (len : Int) + 70) = true := decide_eq_true rfl
              clear hfs hg hkp HG HR HF2 HCA
              go_wp2_with fail
              exact ⟨⟨y + 1, by omega, by go_num, HRN, HFN⟩, by simp [intOf]; omega⟩
        · obtain rfl : x = y := by omega
          have hf := HF.out.trans HF2.out (fun k hk => .inl hk)
          have HFF := Aside0.mk hf
          have HRR := Aside0.mk HR.out
          have HMM : Aside0 (∀ j, j < x → ∀ q (h : q < (em j).length), ElemS w2 (em j)[q] (mk4 j q)) := ⟨fun j hj q h => by
            obtain ⟨b1, b2⟩ := HM.out j hj q h (.inl hj)
            exact b1.frS HF2.out (fun ad e e2 => by have := HLT.out _ e2; have := b2 ad e; omega)⟩
          clear hf HM HF HF2 HR
          go_wp2_with fail
          go_loopw [8, 9] (fun i8 s9 w3 => ∃ y : Nat, y ≤ x ∧ i8 = .int .i64 y ∧ Aside0 (Fr No w2 w3)) (fun i _ _ => x - (intOf i).toNat)
          case atStart => exact ⟨0, by omega, rfl, ⟨Fr.refl _ _⟩⟩
          case round =>
            rename World => w3
            obtain ⟨y, hy, rfl, HF3⟩ := hrel
            by_cases hlt : y < x
            · have hyi : (y : Int) < (x : Int) := by omega
              obtain ⟨ad, hAe, -⟩ := HA.out w2 HFF.out y hlt
              subst hAe
              obtain ⟨len, hlen⟩ : ∃ len, (em y).length = len := ⟨_, rfl⟩
              have HLEN := Aside0.mk hlen
              have hlm : len ≤ 60000 := by rw [← hlen]; exact HLM.out y
              obtain ⟨Ay, cy, hvy, -, -⟩ := Kd.R_reads (HRR.out.mine y hlt)
              rw [hlen] at hvy
              have HVE := Aside0.mk hvy
              have HCA : Aside0 (∀ w4, Fr No w2 w4 → w4.cell? (ad.add y) = some (.slice Ay len cy)) := ⟨fun w4 hf => by
                obtain ⟨ad2, e, hc⟩ := HA.out w4 (HFF.out.then_ hf) y hlt
                obtain rfl := Option.some.inj e
                rw [hc, HVE.out]⟩
              clear hvy hlen
              go_wp2_with fail
              go_loopw [9] (fun i9 w4 => ∃ k : Nat, k ≤ len ∧ i9 = .int .i64 k ∧ Aside0 (Fr No w2 w4)) (fun i _ => len - (intOf i).toNat)
              case atStart => exact ⟨0, by omega, rfl, HF3⟩
              case round =>
                clear HF3
                rename World => w4
                obtain ⟨k, hk, rfl, HF4⟩ := hrel
                have hca := HCA.out _ HF4.out
                by_cases hkl : k < len
                · have hki : (k : Int) < (len : Int) := by omega
                  obtain ⟨ad2, hAe2, hcl⟩ := (HRR.out.fr HF4.out (fun _ _ => id)).at_ y hlt k (by rw [HLEN.out]; exact hkl) HVE.out
                  subst hAe2
                  have hE := (HMM.out y hlt k (by rw [HLEN.out]; exact hkl)).frS HF4.out (fun _ _ => id)
                  generalize (em y)[k]'(by rw [HLEN.out]; exact hkl) = ev at *
                  obtain ⟨De, ne, ce⟩ := ev
                  obtain ⟨e1, e2, e3⟩ := hE
                  unfold slcV at hcl
                  dsimp only at e1 e2 e3 hcl
                  rw [e1] at hcl
                  have HE3 := Aside0.mk e3; have HE2 := Aside0.mk e2
                  have hml : (mk4 y k).length = 4 := rfl
                  rw [hml] at hcl
                  clear e1 e2 e3 hml
                  have HS4 := Aside0.mk (elem4 w4 y k (by omega) (by omega))
                  go_wp2_with (go_at_call 23; refine (same_callsN4 (mk4 y k) 4 rfl _ _ _ _ _ (HE3.out.frS ((Fr.refl No w4).alloc _) (fun _ _ => id)) HS4.out.rd).mono ?_; rintro e w5 ⟨rfl, rfl⟩)
                  exact ⟨⟨k + 1, by omega, by go_num, ⟨HF4.out.alloc _⟩⟩, by simp [intOf]; omega⟩
                · obtain rfl : k = len := by omega
                  go_wp2_with fail
                  exact ⟨⟨y + 1, by omega, by go_num, HF4⟩, by simp [intOf]; omega⟩
            · obtain rfl : x = y := by omega
              go_wp2_with fail
              go_ret
              exact ⟨rfl, HFF.out.then_ HF3.out⟩
end Go.Proofs.YtbaeddppihjgfaaDoor.Sg
namespace Go.Proofs.YtbaeddppihjgfaaDoor.Sg
open Go Go.RowKit Go.Proofs.YtbaeddppihjgfaaDoorW.PrintWords
set_option linter.unusedVariables false
theorem Rb.frS2 {S : Nat → Prop} {w w' : World} {A : Option Addr} {l : List UInt8} (h : Rb w A l) (hf : Fr S w w') (hS : 0 < l.length → ∀ ad, A = some ad → ¬ S ad.block) : Rb w' A l := Rb_mk (Rb_le h) (fun hp => by
  obtain ⟨ad, e, hc⟩ := Rb_cells h hp
  exact ⟨ad, e, fun j hj => hf.cell (hc j hj) (by rw [blk_of_add]; exact hS hp ad e)⟩)
theorem Rb.lt {w : World} {A : Option Addr} {l : List UInt8} (h : Rb w A l) (hp : 0 < l.length) (ad : Addr) (e : A = some ad) : ad.block < w.heap.size := by
  obtain ⟨ad2, e2, hc⟩ := Rb_cells h hp
  obtain rfl := Option.some.inj (e.symm.trans e2)
  have h1 := hc 0 hp
  rcases Nat.lt_or_ge ad.block w.heap.size with h2 | h2
  · exact h2
  · unfold World.cell? at h1
    rw [blk_of_add, Array.getElem?_eq_none h2] at h1
    cases h1
abbrev OwnB (vL vW : Value) (k : Nat) : Prop := vL.ownBlock = some k ∨ vW.ownBlock = some k
/-- The two lists in the midst of the region. -/
structure TwE (B hz : Nat) (w : World) (vL vW : Value) (es : List Slc) (ws : List (List UInt8)) (listed : Array Bool) (vs : Nat → Value) (W : World) : Prop where
  fr : Fr (OwnB vL vW) w W
  z : hz ≤ W.heap.size
  a : listed.getD 4 false = false → Kd.R KV 22 W B (fun _ => True) vL es
  b : listed.getD 11 false = false → Kd.R KS 9 W B (fun _ => True) vW ws
theorem TwE.keep {B hz : Nat} {w W W' : World} {vL vW : Value} {es : List Slc} {ws : List (List UInt8)} {listed : Array Bool} {vs : Nat → Value} (h : TwE B hz w vL vW es ws listed vs W) (i t : Nat) (v : Value) (hi : i ≠ 4 ∧ i ≠ 11) (hf : Fr No W W') : TwE B hz w vL vW es ws (listed.setIfInBounds i true) (fun k => if k = t then v else vs k) W' := by
  refine ⟨h.fr.then_ hf, by have := hf.size; have := h.z; omega, fun h1 => ?_, fun h1 => ?_⟩
  · rw [getD_set_ne false hi.1] at h1; exact scalar_fr (h.a h1) hf (fun _ _ => id)
  · rw [getD_set_ne false hi.2] at h1; exact scalar_fr (h.b h1) hf (fun _ _ => id)
def TwA (B hz : Nat) (vL : Value) (es : List Slc) (v : Value) (W : World) : Prop := Kd.R KV 22 W B (fun _ => True) v es ∧ (v.ownBlock = vL.ownBlock ∨ ∃ b, v.ownBlock = some b ∧ hz ≤ b)
def TwB (B hz : Nat) (vW : Value) (ws : List (List UInt8)) (v : Value) (W : World) : Prop := Kd.R KS 9 W B (fun _ => True) v ws ∧ (v.ownBlock = vW.ownBlock ∨ ∃ b, v.ownBlock = some b ∧ hz ≤ b)
theorem types_LS {w : World} {B B2 : Nat} {u v : Value} {es : List Slc} {ws : List (List UInt8)} (h1 : Kd.R KV 22 w B (fun _ => True) u es) (h2 : Kd.R KS 9 w B2 (fun _ => True) v ws) (k : Nat) (hu : u.ownBlock = some k) (hv : v.ownBlock = some k) : False := by
  obtain ⟨i1, o1⟩ := Kd.R_own h1
  obtain ⟨i2, o2⟩ := Kd.R_own h2
  exact ne_types o1 o2 (by decide) k hu hv
def twSl : Nat → Nat
  | 12 => 10
  | 13 => 11
  | i => 12 + i
def twF (B hz n1 k1 n2 k2 m1 d1 m2 d2 m3 d3 : Nat) (L1 L2 D1 D2 D3 : Option Addr) (es : List Slc) (ws : List (List UInt8)) (l : List UInt8) : Nat → Value → World → Prop
  | 0, v, _ => v = .slice L1 n1 k1
  | 1, v, _ => v = .slice D1 m1 d1
  | 2, v, _ => v = .slice D2 m2 d2
  | 3, v, W => ∃ g, v = .slice (some ⟨g, 0, none⟩) 2 2 ∧ hz ≤ g ∧ W.heap[g]? = some (.cells #[.slice D1 m1 d1, .slice D2 m2 d2] 22 (0, 0))
  | 4, v, W => TwA B hz (.slice L1 n1 k1) (es ++ [(D1, m1, d1), (D2, m2, d2)]) v W
  | 5, v, _ => v = .slice L2 n2 k2
  | 6, v, _ => v = .slice D3 m3 d3
  | 7, v, _ => v = .string ⟨l.toArray⟩
  | 8, v, _ => v = .slice D3 m3 d3
  | 9, v, _ => v = .string ⟨l.toArray⟩
  | 10, v, W => ∃ g, v = .slice (some ⟨g, 0, none⟩) 2 2 ∧ hz ≤ g ∧ W.heap[g]? = some (.cells #[.string ⟨l.toArray⟩, .string ⟨l.toArray⟩] 9 (0, 0))
  | 11, v, W => TwB B hz (.slice L2 n2 k2) (ws ++ [l, l]) v W
  | 12, v, W => TwA B hz (.slice L1 n1 k1) (es ++ [(D1, m1, d1), (D2, m2, d2)]) v W
  | 13, v, W => TwB B hz (.slice L2 n2 k2) (ws ++ [l, l]) v W
  | _, _, _ => True
section
variable {B hz n1 k1 n2 k2 m1 d1 m2 d2 m3 d3 : Nat} {L1 L2 D1 D2 D3 : Option Addr} {es : List Slc} {ws : List (List UInt8)} {l : List UInt8} {j : Nat} {u : Value} {W W' : World}
/-- What the operations yield stays, if the new lists do. -/
theorem twF_fr {S : Nat → Prop} (h : twF B hz n1 k1 n2 k2 m1 d1 m2 d2 m3 d3 L1 L2 D1 D2 D3 es ws l j u W) (hf : Fr S W W') (hS : ∀ k, S k → k < hz) (hA : j = 4 ∨ j = 12 → ∀ k, u.ownBlock = some k → ¬ S k) (hB : j = 11 ∨ j = 13 → ∀ k, u.ownBlock = some k → ¬ S k) : twF B hz n1 k1 n2 k2 m1 d1 m2 d2 m3 d3 L1 L2 D1 D2 D3 es ws l j u W' := by
  match j, h with
  | 0, h => exact h
  | 1, h => exact h
  | 2, h => exact h
  | 3, h =>
    obtain ⟨g, e, hg, hc⟩ := h
    exact ⟨g, e, hg, hf.heap hc (fun h2 => by have := hS _ h2; omega)⟩
  | 4, h => exact ⟨scalar_fr h.1 hf (hA (.inl rfl)), h.2⟩
  | 5, h => exact h
  | 6, h => exact h
  | 7, h => exact h
  | 8, h => exact h
  | 9, h => exact h
  | 10, h =>
    obtain ⟨g, e, hg, hc⟩ := h
    exact ⟨g, e, hg, hf.heap hc (fun h2 => by have := hS _ h2; omega)⟩
  | 11, h => exact ⟨scalar_fr h.1 hf (hB (.inl rfl)), h.2⟩
  | 12, h => exact ⟨scalar_fr h.1 hf (hA (.inr rfl)), h.2⟩
  | 13, h => exact ⟨scalar_fr h.1 hf (hB (.inr rfl)), h.2⟩
  | k + 14, h => trivial
theorem twF_no (h : twF B hz n1 k1 n2 k2 m1 d1 m2 d2 m3 d3 L1 L2 D1 D2 D3 es ws l j u W) (hf : Fr No W W') : twF B hz n1 k1 n2 k2 m1 d1 m2 d2 m3 d3 L1 L2 D1 D2 D3 es ws l j u W' := twF_fr h hf (fun _ h => h.elim) (fun _ _ _ => id) (fun _ _ _ => id)
end
theorem lit2_of {W : World} {g : Nat} {s t : Slc} (h : W.heap[g]? = some (.cells #[slcV s, slcV t] 22 (0, 0))) : KV.C W (some ⟨g, 0, none⟩) 2 [s, t] := by
  refine Kd.C_of_reads (d := s) ⟨rfl, by decide, fun _ => ⟨_, rfl, fun j hj => ?_⟩⟩
  rw [add_plain, blk_cell h]
  have : j = 0 ∨ j = 1 := by omega
  rcases this with rfl | rfl <;> simp
theorem litS2_of {W : World} {g : Nat} {s t : List UInt8} (h : W.heap[g]? = some (.cells #[.string ⟨s.toArray⟩, .string ⟨t.toArray⟩] 9 (0, 0))) : KS.C W (some ⟨g, 0, none⟩) 2 [s, t] := by
  refine Kd.C_of_reads (d := s) ⟨rfl, by decide, fun _ => ⟨_, rfl, fun j hj => ?_⟩⟩
  rw [add_plain, blk_cell h]
  have : j = 0 ∨ j = 1 := by omega
  rcases this with rfl | rfl <;> simp
theorem eval_slot2 {b : Act} {k : Nat} {v : Value} (h : b.tmps[k]?.getD undef = v) : b.eval (.tmp k) = v := by
  show b.tmps.getD k undef = v
  rw [Array.getD_eq_getD_getElem?]; exact h
theorem app_scalar_at2 {α : Type} {enc : α → Value} {h1 : ∀ x, (enc x).oneCell' = true} {P : Program} {o : Oper} {a : Act} {Q : Exit → Act → World → Prop} {W : World} {K : Act → World → Prop} (B : Nat) (hgd : o.guard = none) (s x : Operand) (t e : TypeId) (z : Value) (bytes : Nat)
    (ho : o.op = .call { callee := .builtin .append, args := #[s, x], argTypes := #[t, t] }) (ht : P.underlying t = some (.slice e))
    (hinfo : (P.info? e).map (fun i => (i.zero, i.size, i.bytes)) = some (some z, 1, bytes)) (hz : z.cells.size = 1) (hby : 0 < bytes)
    (v : Value) (xs ys : List α) (A : Option Addr) (m c : Nat) (hs : a.eval s = v) (hx : a.eval x = .slice A m c)
    (HO : (Kd.scalar enc h1).R e W B (fun _ => True) v xs) (HR : (Kd.scalar enc h1).C W A m ys) (hB : B ≤ W.heap.size) (hl : (xs.length + m) * bytes ≤ 140737488355328)
    (h : ∀ v1 w1, (Kd.scalar enc h1).R e w1 B (fun _ => True) v1 (xs ++ ys) → Fr (fun k => v.ownBlock = some k) W w1 → (v1.ownBlock = v.ownBlock ∨ ∃ b, v1.ownBlock = some b ∧ W.heap.size ≤ b) → K (a.put o.dst v1) w1) : o.wp P a W K Q := by
  have hw : Region.wanted o (yielded #[] a.tmps) = true := by simp [Region.wanted, hgd]
  have := app_scalar_step (enc := enc) (h1 := h1) (ops := #[]) (P := P) (Q := Q) (Kc := K) (a := a) (o := o) B hw s x t e z bytes ho ht hinfo hz hby v xs ys A m c hs hx HO HR hB hl h
  rwa [if_pos hw] at this
set_option maxRecDepth 100000 in
set_option maxHeartbeats 4000000 in
theorem twice_raw (w : World) (B n1 k1 n2 k2 m1 d1 m2 d2 m3 d3 : Nat) (L1 L2 D1 D2 D3 : Option Addr) (es : List Slc) (ws : List (List UInt8)) (l : List UInt8) (hB : B ≤ w.heap.size)
    (hL : Kd.R KV 22 w B (fun _ => True) (.slice L1 n1 k1) es) (hW : Kd.R KS 9 w B (fun _ => True) (.slice L2 n2 k2) ws) (hr : Rb w D3 l) (hm : l.length = m3) (hD : 0 < l.length → ∀ ad, D3 = some ad → ¬ OwnB (.slice L1 n1 k1) (.slice L2 n2 k2) ad.block) (hes : es.length ≤ 1000000) (hws : ws.length ≤ 1000000) :
    Calls Tryd.prog 76 #[.slice L1 n1 k1, .slice L2 n2 k2, .slice D1 m1 d1, .slice D2 m2 d2, .slice D3 m3 d3] w fun e w' => ∃ v1 v2, e = .returned (.tuple #[v1, v2]) ∧ TwA B w.heap.size (.slice L1 n1 k1) (es ++ [(D1, m1, d1), (D2, m2, d2)]) v1 w' ∧ TwB B w.heap.size (.slice L2 n2 k2) (ws ++ [l, l]) v2 w' ∧ Fr (OwnB (.slice L1 n1 k1) (.slice L2 n2 k2)) w w' := by
  have HCV : Aside0 (∀ W, Fr (OwnB (.slice L1 n1 k1) (.slice L2 n2 k2)) w W → (convert 22 9 (.slice D3 m3 d3)).run Tryd.prog W = .ok (.string ⟨l.toArray⟩) W) := ⟨fun W hf => by
    have h1 := Kd.C_string (P := Tryd.prog) (c := d3) Tryd.underlying22 Tryd.underlying5 Tryd.underlying9 (Rb.frS2 hr hf hD)
    rw [str_bi, hm] at h1
    exact h1⟩
  have HE0 : Aside0 (∀ vs, TwE B w.heap.size w (.slice L1 n1 k1) (.slice L2 n2 k2) es ws (Array.replicate 14 false) vs w.drew) := ⟨fun vs => ⟨(Fr.refl _ w).drew, Nat.le_refl _, fun _ => scalar_fr hL (Fr.refl No w).drew (fun _ _ => id), fun _ => scalar_fr hW (Fr.refl No w).drew (fun _ _ => id)⟩⟩
  have HLL : Aside0 ((es.length + 2) * 24 ≤ 140737488355328) := ⟨by omega⟩
  have HLW : Aside0 ((ws.length + 2) * 16 ≤ 140737488355328) := ⟨by omega⟩
  have HLT : Aside0 (∀ k, OwnB (.slice L1 n1 k1) (.slice L2 n2 k2) k → k < w.heap.size) := ⟨fun k hk => hk.elim (fun h => (ownS_lt hL k h).2) (fun h => (ownS_lt hW k h).2)⟩
  have HBW := Aside0.mk hB
  clear hL hW hr hD hm
  go_enter Tryd.func76, Tryd.ntmps76
  go_wp2_with fail
  refine region_jb (by kernel_rfl) 24 rfl twSl [10, 11, 12, 13, 14, 15, 16, 17, 18, 19, 20, 21, 22, 23] 0 (twF B w.heap.size n1 k1 n2 k2 m1 d1 m2 d2 m3 d3 L1 L2 D1 D2 D3 es ws l) (TwE B w.heap.size w (.slice L1 n1 k1) (.slice L2 n2 k2) es ws) (fun vs => HE0.out vs) (by decide +kernel) (by decide +kernel) (by decide +kernel) ?_ ?_
  · intro listed vs W i o b hj ho hu hb hin hout hyl K hK
    have hlt : i < 14 := (Array.getElem?_eq_some_iff.1 ho).1
    have : i = 0 ∨ i = 1 ∨ i = 2 ∨ i = 3 ∨ i = 4 ∨ i = 5 ∨ i = 6 ∨ i = 7 ∨ i = 8 ∨ i = 9 ∨ i = 10 ∨ i = 11 ∨ i = 12 ∨ i = 13 := by omega
    rcases this with rfl | rfl | rfl | rfl | rfl | rfl | rfl | rfl | rfl | rfl | rfl | rfl | rfl | rfl
    · obtain rfl := Option.some.inj (show some _ = some o from ho)
      have HST := Aside0.mk (fun (v : Value) (w' : World) h1 h2 h3 => hK v w' h1 h2 h3)
      have HJE := Aside0.mk hj.ext
      have r0 : b.tmps[0]?.getD undef = .slice L1 n1 k1 := (hout 0 (by decide +kernel)).trans rfl
      refine wpOp_of ho rfl ?_
      clear hK ho hb hu hj hin hout hyl
      go_simp
      exact HST.out _ _ (fun _ _ _ _ h => h) rfl (HJE.out.keep 0 12 _ (by decide) (Fr.refl No W))
    · obtain rfl := Option.some.inj (show some _ = some o from ho)
      have HST := Aside0.mk (fun (v : Value) (w' : World) h1 h2 h3 => hK v w' h1 h2 h3)
      have HJE := Aside0.mk hj.ext
      have r2 : b.tmps[2]?.getD undef = .slice D1 m1 d1 := (hout 2 (by decide +kernel)).trans rfl
      refine wpOp_of ho rfl ?_
      clear hK ho hb hu hj hin hout hyl
      go_simp
      exact HST.out _ _ (fun _ _ _ _ h => h) rfl (HJE.out.keep 1 13 _ (by decide) (Fr.refl No W))
    · obtain rfl := Option.some.inj (show some _ = some o from ho)
      have HST := Aside0.mk (fun (v : Value) (w' : World) h1 h2 h3 => hK v w' h1 h2 h3)
      have HJE := Aside0.mk hj.ext
      have r3 : b.tmps[3]?.getD undef = .slice D2 m2 d2 := (hout 3 (by decide +kernel)).trans rfl
      refine wpOp_of ho rfl ?_
      clear hK ho hb hu hj hin hout hyl
      go_simp
      exact HST.out _ _ (fun _ _ _ _ h => h) rfl (HJE.out.keep 2 14 _ (by decide) (Fr.refl No W))
    · obtain rfl := Option.some.inj (show some _ = some o from ho)
      have e1 : twF B w.heap.size n1 k1 n2 k2 m1 d1 m2 d2 m3 d3 L1 L2 D1 D2 D3 es ws l 1 (vs 13) W := hj.all 1 (by decide) (hb ⟨1, .data⟩ (by simp) rfl) (fun h => absurd h (by decide))
      replace e1 : vs 13 = .slice D1 m1 d1 := e1
      have e2 : twF B w.heap.size n1 k1 n2 k2 m1 d1 m2 d2 m3 d3 L1 L2 D1 D2 D3 es ws l 2 (vs 14) W := hj.all 2 (by decide) (hb ⟨2, .data⟩ (by simp) rfl) (fun h => absurd h (by decide))
      replace e2 : vs 14 = .slice D2 m2 d2 := e2
      have HST := Aside0.mk (fun (v : Value) (w' : World) h1 h2 h3 => hK v w' h1 h2 h3)
      have HJE := Aside0.mk hj.ext
      have r13 : b.tmps[13]?.getD undef = .slice D1 m1 d1 := (hin 13 (by decide +kernel)).trans e1
      have r14 : b.tmps[14]?.getD undef = .slice D2 m2 d2 := (hin 14 (by decide +kernel)).trans e2
      refine wpOp_of ho rfl ?_
      clear hK ho hb hu hj hin hout hyl
      go_simp
      exact HST.out _ _ (fun _ _ _ _ h => twF_no h ((Fr.refl No W).alloc _)) ⟨_, rfl, HJE.out.z, heap_alloc_new W _⟩ (HJE.out.keep 3 15 _ (by decide) ((Fr.refl No W).alloc _))
    · obtain rfl := Option.some.inj (show some _ = some o from ho)
      have e0 : twF B w.heap.size n1 k1 n2 k2 m1 d1 m2 d2 m3 d3 L1 L2 D1 D2 D3 es ws l 0 (vs 12) W := hj.all 0 (by decide) (hb ⟨0, .data⟩ (by simp) rfl) (fun h => absurd h (by decide))
      replace e0 : vs 12 = .slice L1 n1 k1 := e0
      have e3 : twF B w.heap.size n1 k1 n2 k2 m1 d1 m2 d2 m3 d3 L1 L2 D1 D2 D3 es ws l 3 (vs 15) W := hj.all 3 (by decide) (hb ⟨3, .data⟩ (by simp) rfl) (fun h => absurd h (by decide))
      have HST := Aside0.mk (fun (v : Value) (w' : World) h1 h2 h3 => hK v w' h1 h2 h3)
      have HU := Aside0.mk hu
      have HJE := Aside0.mk hj.ext
      have HKV := Aside0.mk (hj.ext.a hu)
      have HSZ := Aside0.mk hj.size
      have h12 : listed.getD 12 false = false := by
        cases hc : listed.getD 12 false with
        | false => rfl
        | true => exact absurd (hj.dep 12 _ rfl hc ⟨4, .data⟩ (by simp) rfl) (by rw [hu]; decide)
      have H12 := Aside0.mk h12
      clear h12
      obtain ⟨g, e3, hgz, hcg⟩ := e3
      have HCG := Aside0.mk (lit2_of (s := (D1, m1, d1)) (t := (D2, m2, d2)) hcg)
      clear hcg hgz
      have r15 : b.tmps[15]?.getD undef = .slice (some ⟨g, 0, none⟩) 2 2 := (hin 15 (by decide +kernel)).trans e3
      have r12 : b.tmps[12]?.getD undef = .slice L1 n1 k1 := (hin 12 (by decide +kernel)).trans e0
      refine wpOp_of ho rfl ?_
      clear hK ho hb hu hj hin hout hyl
      refine app_scalar_at2 (enc := slcV) (h1 := fun _ => rfl) B rfl (.tmp 12) (.tmp 15) 34 22 (.slice none 0 0) 24 (by rfl) Tryd.underlying34 infoRow rfl (by decide) (.slice L1 n1 k1) es [(D1, m1, d1), (D2, m2, d2)] _ 2 _ (eval_slot2 r12) (eval_slot2 r15) HKV.out HCG.out (by have := HJE.out.z; omega) HLL.out ?_
      intro v1 w1 hm hf ho2
      have hot : v1.ownBlock = (Value.slice L1 n1 k1).ownBlock ∨ ∃ b, v1.ownBlock = some b ∧ w.heap.size ≤ b := ho2.imp id (fun ⟨b, e, hb⟩ => ⟨b, e, Nat.le_trans HJE.out.z hb⟩)
      refine HST.out v1 w1 (fun j u _ hl h => twF_fr h hf (fun k hk => HLT.out k (.inl hk)) (fun hj k hk h2 => ?_) (fun hj k hk h2 => ?_)) ⟨hm, hot⟩ ⟨HJE.out.fr.trans hf (fun k hk => .inl (.inl hk)), by have := hf.size; have := HJE.out.z; omega, fun h1 => ?_, fun h1 => ?_⟩
      · rcases hj with rfl | rfl
        · rw [HU.out] at hl; cases hl
        · rw [H12.out] at hl; cases hl
      · rcases hj with rfl | rfl
        · exact types_LS HKV.out h.1 k h2 hk
        · exact types_LS HKV.out h.1 k h2 hk
      · simp [HSZ.out] at h1
      · rw [getD_set_ne false (by decide)] at h1; exact scalar_fr (HJE.out.b h1) hf (fun k hk h2 => types_LS HKV.out (HJE.out.b h1) k h2 hk)
    · obtain rfl := Option.some.inj (show some _ = some o from ho)
      have HST := Aside0.mk (fun (v : Value) (w' : World) h1 h2 h3 => hK v w' h1 h2 h3)
      have HJE := Aside0.mk hj.ext
      have r1 : b.tmps[1]?.getD undef = .slice L2 n2 k2 := (hout 1 (by decide +kernel)).trans rfl
      refine wpOp_of ho rfl ?_
      clear hK ho hb hu hj hin hout hyl
      go_simp
      exact HST.out _ _ (fun _ _ _ _ h => h) rfl (HJE.out.keep 5 17 _ (by decide) (Fr.refl No W))
    · obtain rfl := Option.some.inj (show some _ = some o from ho)
      have HST := Aside0.mk (fun (v : Value) (w' : World) h1 h2 h3 => hK v w' h1 h2 h3)
      have HJE := Aside0.mk hj.ext
      have r4 : b.tmps[4]?.getD undef = .slice D3 m3 d3 := (hout 4 (by decide +kernel)).trans rfl
      refine wpOp_of ho rfl ?_
      clear hK ho hb hu hj hin hout hyl
      go_simp
      exact HST.out _ _ (fun _ _ _ _ h => h) rfl (HJE.out.keep 6 18 _ (by decide) (Fr.refl No W))
    · obtain rfl := Option.some.inj (show some _ = some o from ho)
      have e6 : twF B w.heap.size n1 k1 n2 k2 m1 d1 m2 d2 m3 d3 L1 L2 D1 D2 D3 es ws l 6 (vs 18) W := hj.all 6 (by decide) (hb ⟨6, .data⟩ (by simp) rfl) (fun h => absurd h (by decide))
      replace e6 : vs 18 = .slice D3 m3 d3 := e6
      have HST := Aside0.mk (fun (v : Value) (w' : World) h1 h2 h3 => hK v w' h1 h2 h3)
      have HJE := Aside0.mk hj.ext
      have r18 : b.tmps[18]?.getD undef = .slice D3 m3 d3 := (hin 18 (by decide +kernel)).trans e6
      refine wpOp_of ho rfl ?_
      clear hK ho hb hu hj hin hout hyl
      have hq := HCV.out W HJE.out.fr
      go_simp
      exact HST.out _ _ (fun _ _ _ _ h => h) rfl (HJE.out.keep 7 19 _ (by decide) (Fr.refl No W))
    · obtain rfl := Option.some.inj (show some _ = some o from ho)
      have HST := Aside0.mk (fun (v : Value) (w' : World) h1 h2 h3 => hK v w' h1 h2 h3)
      have HJE := Aside0.mk hj.ext
      have r4 : b.tmps[4]?.getD undef = .slice D3 m3 d3 := (hout 4 (by decide +kernel)).trans rfl
      refine wpOp_of ho rfl ?_
      clear hK ho hb hu hj hin hout hyl
      go_simp
      exact HST.out _ _ (fun _ _ _ _ h => h) rfl (HJE.out.keep 8 20 _ (by decide) (Fr.refl No W))
    · obtain rfl := Option.some.inj (show some _ = some o from ho)
      have e8 : twF B w.heap.size n1 k1 n2 k2 m1 d1 m2 d2 m3 d3 L1 L2 D1 D2 D3 es ws l 8 (vs 20) W := hj.all 8 (by decide) (hb ⟨8, .data⟩ (by simp) rfl) (fun h => absurd h (by decide))
      replace e8 : vs 20 = .slice D3 m3 d3 := e8
      have HST := Aside0.mk (fun (v : Value) (w' : World) h1 h2 h3 => hK v w' h1 h2 h3)
      have HJE := Aside0.mk hj.ext
      have r20 : b.tmps[20]?.getD undef = .slice D3 m3 d3 := (hin 20 (by decide +kernel)).trans e8
      refine wpOp_of ho rfl ?_
      clear hK ho hb hu hj hin hout hyl
      have hq := HCV.out W HJE.out.fr
      go_simp
      exact HST.out _ _ (fun _ _ _ _ h => h) rfl (HJE.out.keep 9 21 _ (by decide) (Fr.refl No W))
    · obtain rfl := Option.some.inj (show some _ = some o from ho)
      have e7 : twF B w.heap.size n1 k1 n2 k2 m1 d1 m2 d2 m3 d3 L1 L2 D1 D2 D3 es ws l 7 (vs 19) W := hj.all 7 (by decide) (hb ⟨7, .data⟩ (by simp) rfl) (fun h => absurd h (by decide))
      replace e7 : vs 19 = .string ⟨l.toArray⟩ := e7
      have e9 : twF B w.heap.size n1 k1 n2 k2 m1 d1 m2 d2 m3 d3 L1 L2 D1 D2 D3 es ws l 9 (vs 21) W := hj.all 9 (by decide) (hb ⟨9, .data⟩ (by simp) rfl) (fun h => absurd h (by decide))
      replace e9 : vs 21 = .string ⟨l.toArray⟩ := e9
      have HST := Aside0.mk (fun (v : Value) (w' : World) h1 h2 h3 => hK v w' h1 h2 h3)
      have HJE := Aside0.mk hj.ext
      have r19 : b.tmps[19]?.getD undef = .string ⟨l.toArray⟩ := (hin 19 (by decide +kernel)).trans e7
      have r21 : b.tmps[21]?.getD undef = .string ⟨l.toArray⟩ := (hin 21 (by decide +kernel)).trans e9
      refine wpOp_of ho rfl ?_
      clear hK ho hb hu hj hin hout hyl
      go_simp
      exact HST.out _ _ (fun _ _ _ _ h => twF_no h ((Fr.refl No W).alloc _)) ⟨_, rfl, HJE.out.z, heap_alloc_new W _⟩ (HJE.out.keep 10 22 _ (by decide) ((Fr.refl No W).alloc _))
    · obtain rfl := Option.some.inj (show some _ = some o from ho)
      have e5 : twF B w.heap.size n1 k1 n2 k2 m1 d1 m2 d2 m3 d3 L1 L2 D1 D2 D3 es ws l 5 (vs 17) W := hj.all 5 (by decide) (hb ⟨5, .data⟩ (by simp) rfl) (fun h => absurd h (by decide))
      replace e5 : vs 17 = .slice L2 n2 k2 := e5
      have e10 : twF B w.heap.size n1 k1 n2 k2 m1 d1 m2 d2 m3 d3 L1 L2 D1 D2 D3 es ws l 10 (vs 22) W := hj.all 10 (by decide) (hb ⟨10, .data⟩ (by simp) rfl) (fun h => absurd h (by decide))
      have HST := Aside0.mk (fun (v : Value) (w' : World) h1 h2 h3 => hK v w' h1 h2 h3)
      have HU := Aside0.mk hu
      have HJE := Aside0.mk hj.ext
      have HKS := Aside0.mk (hj.ext.b hu)
      have HSZ := Aside0.mk hj.size
      have h13 : listed.getD 13 false = false := by
        cases hc : listed.getD 13 false with
        | false => rfl
        | true => exact absurd (hj.dep 13 _ rfl hc ⟨11, .data⟩ (by simp) rfl) (by rw [hu]; decide)
      have H13 := Aside0.mk h13
      clear h13
      obtain ⟨g, e10, hgz, hcg⟩ := e10
      have HCG := Aside0.mk (litS2_of hcg)
      clear hcg hgz
      have r22 : b.tmps[22]?.getD undef = .slice (some ⟨g, 0, none⟩) 2 2 := (hin 22 (by decide +kernel)).trans e10
      have r17 : b.tmps[17]?.getD undef = .slice L2 n2 k2 := (hin 17 (by decide +kernel)).trans e5
      refine wpOp_of ho rfl ?_
      clear hK ho hb hu hj hin hout hyl
      refine app_scalar_at2 (enc := fun l : List UInt8 => Value.string ⟨l.toArray⟩) (h1 := fun _ => rfl) B rfl (.tmp 17) (.tmp 22) 42 9 (.string ByteArray.empty) 16 (by rfl) Tryd.underlying42 infoStr rfl (by decide) (.slice L2 n2 k2) ws [l, l] _ 2 _ (eval_slot2 r17) (eval_slot2 r22) HKS.out HCG.out (by have := HJE.out.z; omega) HLW.out ?_
      intro v1 w1 hm hf ho2
      have hot : v1.ownBlock = (Value.slice L2 n2 k2).ownBlock ∨ ∃ b, v1.ownBlock = some b ∧ w.heap.size ≤ b := ho2.imp id (fun ⟨b, e, hb⟩ => ⟨b, e, Nat.le_trans HJE.out.z hb⟩)
      refine HST.out v1 w1 (fun j u _ hl h => twF_fr h hf (fun k hk => HLT.out k (.inr hk)) (fun hj k hk h2 => ?_) (fun hj k hk h2 => ?_)) ⟨hm, hot⟩ ⟨HJE.out.fr.trans hf (fun k hk => .inl (.inr hk)), by have := hf.size; have := HJE.out.z; omega, fun h1 => ?_, fun h1 => ?_⟩
      · rcases hj with rfl | rfl
        · exact types_LS h.1 HKS.out k hk h2
        · exact types_LS h.1 HKS.out k hk h2
      · rcases hj with rfl | rfl
        · rw [HU.out] at hl; cases hl
        · rw [H13.out] at hl; cases hl
      · rw [getD_set_ne false (by decide)] at h1; exact scalar_fr (HJE.out.a h1) hf (fun k hk h2 => types_LS (HJE.out.a h1) HKS.out k hk h2)
      · simp [HSZ.out] at h1
    · obtain rfl := Option.some.inj (show some _ = some o from ho)
      have e4 : twF B w.heap.size n1 k1 n2 k2 m1 d1 m2 d2 m3 d3 L1 L2 D1 D2 D3 es ws l 4 (vs 16) W := hj.all 4 (by decide) (hb ⟨4, .data⟩ (by simp) rfl) (fun h => absurd h (by decide))
      have HST := Aside0.mk (fun (v : Value) (w' : World) h1 h2 h3 => hK v w' h1 h2 h3)
      have HJE := Aside0.mk hj.ext
      have HE4 := Aside0.mk e4
      clear e4
      have r16 : b.tmps[16]?.getD undef = vs 16 := hin 16 (by decide +kernel)
      refine wpOp_of ho rfl ?_
      clear hK ho hb hu hj hin hout hyl
      go_simp
      exact HST.out _ _ (fun _ _ _ _ h => h) HE4.out (HJE.out.keep 12 10 _ (by decide) (Fr.refl No W))
    · obtain rfl := Option.some.inj (show some _ = some o from ho)
      have e11 : twF B w.heap.size n1 k1 n2 k2 m1 d1 m2 d2 m3 d3 L1 L2 D1 D2 D3 es ws l 11 (vs 23) W := hj.all 11 (by decide) (hb ⟨11, .data⟩ (by simp) rfl) (fun h => absurd h (by decide))
      have HST := Aside0.mk (fun (v : Value) (w' : World) h1 h2 h3 => hK v w' h1 h2 h3)
      have HJE := Aside0.mk hj.ext
      have HE11 := Aside0.mk e11
      clear e11
      have r23 : b.tmps[23]?.getD undef = vs 23 := hin 23 (by decide +kernel)
      refine wpOp_of ho rfl ?_
      clear hK ho hb hu hj hin hout hyl
      go_simp
      exact HST.out _ _ (fun _ _ _ _ h => h) HE11.out (HJE.out.keep 13 11 _ (by decide) (Fr.refl No W))
  · intro vs W hall hext
    obtain ⟨listed, hal, hE⟩ := hext
    have HFR := Aside0.mk hE.fr
    have HA : Aside0 (TwA B w.heap.size (.slice L1 n1 k1) (es ++ [(D1, m1, d1), (D2, m2, d2)]) (vs 10) W) := ⟨hall 12 (by decide) (by decide)⟩
    have HBB : Aside0 (TwB B w.heap.size (.slice L2 n2 k2) (ws ++ [l, l]) (vs 11) W) := ⟨hall 13 (by decide) (by decide)⟩
    clear hall hal hE listed
    simp only [Jact_lit, List.foldl_cons, List.foldl_nil, List.setIfInBounds_toArray, List.set_cons_succ, List.set_cons_zero]
    generalize vs 10 = x10 at *
    generalize vs 11 = x11 at *
    generalize vs 12 = x12 at *
    generalize vs 13 = x13 at *
    generalize vs 14 = x14 at *
    generalize vs 15 = x15 at *
    generalize vs 16 = x16 at *
    generalize vs 17 = x17 at *
    generalize vs 18 = x18 at *
    generalize vs 19 = x19 at *
    generalize vs 20 = x20 at *
    generalize vs 21 = x21 at *
    generalize vs 22 = x22 at *
    generalize vs 23 = x23 at *
    clear vs
    go_wp2_with fail
    go_ret2
    exact ⟨_, _, rfl, HA.out, HBB.out, HFR.out⟩
end Go.Proofs.YtbaeddppihjgfaaDoor.Sg
