/- The law DigestBook: what quiet collects; contracts over values of one's own. -/
import Derived.Test.YtbaeddppihjgfaaDoorMgLst
import Derived.Test.YtbaeddppihjgfaaDoorMgBook
import Derived.Test.YtbaeddppihjgfaaDoorMgDomain
import Derived.Test.YtbaeddppihjgfaaDoorMgFrame
import Derived.Test.YtbaeddppihjgfaaDoorMgParts
import Derived.Test.YtbaeddppihjgfaaDoorPartsS
import Derived.Test.YtbaeddppihjgfaaDoorMgUnhex
import Derived.Test.YtbaeddppihjgfaaDoorMgCome
import Derived.Test.YtbaeddppihjgfaaDoorPiecesWalk
namespace Go.Proofs.YtbaeddppihjgfaaDoor.Sg
open Go Go.RowKit Go.Proofs.YtbaeddppihjgfaaDoorW.PrintWords
set_option linter.unusedVariables false
/-! ### contracts over values of one's own, and over rows with a length of its own -/
section
variable {w : World} {B : Nat} {v : Value} {l : List UInt8}
theorem sumV_calls (h : Mine w B v (bi l)) (hl : l.length ≤ 140737488351232) (hK : KAt w) (hF : FirstAt w) : Calls Tryd.prog 22 #[v] w fun e w' => ∃ u, e = .returned u ∧ Mine w' w.heap.size u (bi (sha l)) ∧ Fr No w w' := by
  obtain ⟨A, c, rfl, hc, hr⟩ := h.reads
  exact digest_calls l A c w hc hr hl hK hF
theorem refSumV_calls (h : Mine w B v (bi l)) (hl : l.length ≤ 140737488351232) (hK : KeysAt w) : Calls Tryd.prog 24 #[v] w fun e w' => ∃ u, e = .returned u ∧ Mine w' w.heap.size u (bi (sha l)) ∧ Fr No w w' := by
  obtain ⟨A, c, rfl, hc, hr⟩ := h.reads
  exact refSum_calls l A c w hr hl hK
theorem partsV_calls (h : Mine w B v (bi l)) (hl : l.length ≤ 140737488351232) : Calls Tryd.prog 45 #[v] w fun e w' => ∃ u, e = .returned (.tuple #[u, .int .i64 (partsE l)]) ∧ LOwn w' w.heap.size u (partsL l) ∧ Fr No w w' := by
  obtain ⟨A, c, rfl, hc, hr⟩ := h.reads
  exact partsS_calls l A c w hr hc hl
end
section
variable (q : LL) (n : Nat) (hn : q.length = n) (A : Option Addr) (c : Nat) (w : World) (hr : Rbs w A q) (hc : n ≤ c) (h2 : n ≤ 200) (hl : ∀ l ∈ q, l.length ≤ 140737488351232)
include hn hr hc h2 hl
theorem frameQ_calls (hok : frameOk q = true) : Calls Tryd.prog 44 #[.slice A n c] w fun e w' => ∃ v, e = .returned (.tuple #[v, .int .i64 0]) ∧ Mine w' w.heap.size v (bi (frameL q)) ∧ Fr No w w' := by
  subst hn
  have h := frame_calls q A c w hr hl
  unfold frameB frameE at h
  rw [if_pos hok, if_pos hok] at h
  exact h
theorem refFrameQ_calls (hok : frameOk q = true) : Calls Tryd.prog 60 #[.slice A n c] w fun e w' => ∃ v, e = .returned (.tuple #[v, .int .i64 0]) ∧ Mine w' w.heap.size v (bi (frameL q)) ∧ Fr No w w' := by
  subst hn
  have h := refFrame_calls q A c w hr hl
  unfold frameB frameE at h
  rw [if_pos hok, if_pos hok] at h
  exact h
theorem domainQ_calls (hK : KAt w) (hF : FirstAt w) : Calls Tryd.prog 32 #[.string ⟨#[120]⟩, .slice A n c] w fun e w' => ∃ v, e = .returned (.tuple #[v, .int .i64 (frameE ([120] :: q))]) ∧ Mine w' w.heap.size v (bi (domB [120] q)) ∧ Fr No w w' := by
  subst hn
  exact domain_calls [120] q A c w hr (by omega) hl (by decide) hK hF
theorem refDomainQ_calls (hK : KeysAt w) : Calls Tryd.prog 33 #[.string ⟨#[120]⟩, .slice A n c] w fun e w' => ∃ v, e = .returned (.tuple #[v, .int .i64 (frameE ([120] :: q))]) ∧ Mine w' w.heap.size v (bi (domB [120] q)) ∧ Fr No w w' := by
  subst hn
  exact refDomain_calls [120] q A c w hr (by omega) hl (by decide) hK
theorem rootQ_calls (hK : KAt w) (hF : FirstAt w) : Calls Tryd.prog 41 #[.slice A n c] w fun e w' => ∃ v, e = .returned (.tuple #[v, .int .i64 0]) ∧ Mine w' w.heap.size v (bi (treeL q)) ∧ Fr No w w' := by
  subst hn
  have h := root_walk q A c w hr hc (by omega) hl hK hF
  unfold rootB rootE at h
  rw [if_pos (by omega), if_pos (by omega)] at h
  exact h
theorem refRootQ_calls (hK : KeysAt w) : Calls Tryd.prog 42 #[.slice A n c] w fun e w' => ∃ v, e = .returned (.tuple #[v, .int .i64 0]) ∧ Mine w' w.heap.size v (bi (treeL q)) ∧ Fr No w w' := by
  subst hn
  have h := refRoot_calls q A c w hr hc hl (by omega) hK
  unfold rootB rootE at h
  rw [if_pos (by omega), if_pos (by omega)] at h
  exact h
theorem proveQ_calls (a : Nat) (ha : a < n) (b : Int) (hb : b = a) (hK : KAt w) (hF : FirstAt w) : Calls Tryd.prog 43 #[.slice A n c, .int .i64 b] w fun e w' => ∃ v, e = .returned (.tuple #[v, .int .i64 0]) ∧ LOwn w' w.heap.size v (wayL q a) ∧ Fr No w w' := by
  subst hn hb
  have h := prove_walk q a A c w hr hc (by omega) hl hK hF
  rw [(prove_yes (by omega) ha).1, (prove_yes (by omega) ha).2] at h
  exact h
theorem refProveQ_calls (a : Nat) (ha : a < n) (b : Int) (hb : b = a) (hK : KeysAt w) : Calls Tryd.prog 40 #[.slice A n c, .int .i64 b] w fun e w' => ∃ v, e = .returned (.tuple #[v, .int .i64 0]) ∧ LOwn w' w.heap.size v (wayL q a) ∧ Fr No w w' := by
  subst hn hb
  have h := refProve_calls q a A c w hr hc (by omega) hl hK
  rw [(prove_yes (by omega) ha).1, (prove_yes (by omega) ha).2] at h
  exact h
end
/-! ### lists with rows apart -/
theorem LstV.rbs {w : World} {B : Nat} {v : Value} {es : List Slc} {ls : List (List UInt8)} (h : LstV w B v es ls) : ∃ A c, v = .slice A ls.length c ∧ ls.length ≤ c ∧ Rbs w A ls := by
  obtain ⟨A, c, hv, hc, hcl⟩ := h.cell
  refine ⟨A, c, hv, hc, ?_⟩
  have hle : ls.length ≤ 9223372036854775807 := by
    obtain ⟨A2, c2, hv2, hc2, hr2⟩ := Kd.R_reads h.arr
    have := hr2.2.1
    rw [h.len] at this
    exact this
  cases A with
  | none =>
    have h0 : ls = [] := by
      cases ls with
      | nil => rfl
      | cons x ls => obtain ⟨ad, e, _⟩ := hcl 0 (by simp); cases e
    subst h0
    exact ⟨by simp, by decide, fun hp => by simp at hp⟩
  | some ad =>
    refine Rbs.mkA hle (fun i hi => ?_)
    obtain ⟨ad2, e, hc2⟩ := hcl i hi
    obtain rfl := Option.some.inj e
    obtain ⟨Ai, ci, e1, e2, e3⟩ := (h.rows.mine i hi).reads
    rw [e1, rowL_at _ _ hi] at hc2
    rw [rowL_at _ _ hi] at e2 e3
    exact ⟨Ai, ci, hc2, e2, e3⟩
/-- Other rows than those of the two lists of quiet. -/
theorem LstV.frB {w w1 : World} {B B2 B3 : Nat} {v vL vW : Value} {es esL : List Slc} {ls lsW : List (List UInt8)} (h : LstV w B v es ls) (hL : Kd.R KV 22 w B2 (fun _ => True) vL esL) (hW : Kd.R KS 9 w B3 (fun _ => True) vW lsW) (hn : NeRow v vL) (hf : Fr (OwnB vL vW) w w1) : LstV w1 B v es ls := by
  refine h.fr hf (fun k hk h2 => ?_)
  rcases hk with hk | ⟨j, hj, hk⟩
  · rcases h2 with h2 | h2
    · exact hn k hk h2
    · exact types_LS h.arr hW k hk h2
  · obtain ⟨i1, o1⟩ := Kd.R_own (h.rows.mine j hj)
    rcases h2 with h2 | h2
    · obtain ⟨i2, o2⟩ := Kd.R_own hL
      exact ne_types o1 o2 (by decide) k hk h2
    · obtain ⟨i2, o2⟩ := Kd.R_own hW
      exact ne_types o1 o2 (by decide) k hk h2
theorem Mine.frB {w w1 : World} {B B2 B3 : Nat} {v vL vW : Value} {xs : List Int} {esL : List Slc} {lsW : List (List UInt8)} (h : Mine w B v xs) (hL : Kd.R KV 22 w B2 (fun _ => True) vL esL) (hW : Kd.R KS 9 w B3 (fun _ => True) vW lsW) (hf : Fr (OwnB vL vW) w w1) : Mine w1 B v xs := by
  refine h.fr hf (fun k hk h2 => ?_)
  obtain ⟨i1, o1⟩ := Kd.R_own h
  rcases h2 with h2 | h2
  · obtain ⟨i2, o2⟩ := Kd.R_own hL
    exact ne_types o1 o2 (by decide) k hk h2
  · obtain ⟨i2, o2⟩ := Kd.R_own hW
    exact ne_types o1 o2 (by decide) k hk h2
/-- What quiet has collected: rows apart, and the strings that they must be. -/
structure QuI (w0 wr : World) (vL vW : Value) (es : List Slc) (ls : List (List UInt8)) : Prop where
  l : LstV wr w0.heap.size vL es ls
  w : Kd.R KS 9 wr w0.heap.size (fun _ => True) vW ls
  fr : Fr No w0 wr
  sm : ∀ x ∈ ls, x.length ≤ 67108864
theorem QuI.frN {w0 wr w1 : World} {vL vW : Value} {es : List Slc} {ls : List (List UInt8)} (h : QuI w0 wr vL vW es ls) (hf : Fr No wr w1) : QuI w0 w1 vL vW es ls :=
  ⟨h.l.fr hf (fun _ _ => id), scalar_fr h.w hf (fun _ _ => id), h.fr.then_ hf, h.sm⟩
theorem QuI.ne {w0 wr : World} {vL vW : Value} {es : List Slc} {ls : List (List UInt8)} (h : QuI w0 wr vL vW es ls) {k : Nat} (hk : OwnL vL es ls.length k ∨ vW.ownBlock = some k) : w0.heap.size ≤ k ∧ k < wr.heap.size := by
  rcases hk with hk | hk
  · exact h.l.base hk
  · exact ownS_lt h.w k hk
/-- Two rows more, and what they must be. -/
theorem QuI.twice_calls {w0 w1 : World} {vL vW : Value} {es : List Slc} {ls : List (List UInt8)} (h : QuI w0 w1 vL vW es ls) (hn : ls.length ≤ 1000) {va vb vi : Value} {l : List UInt8} {B2 B3 : Nat} (hl : l.length ≤ 67108864) (ha : Mine w1 B2 va (bi l)) (hb : Mine w1 B3 vb (bi l)) (hB2 : w0.heap.size ≤ B2) (hB3 : w0.heap.size ≤ B3) (hab : NeRow va vb)
    (hna : ∀ k, va.ownBlock = some k → ¬ OwnD ls.length (rowV es) k) (hnb : ∀ k, vb.ownBlock = some k → ¬ OwnD ls.length (rowV es) k) {D : Option Addr} {ni ci : Nat} (hi : vi = .slice D ni ci) (hni : l.length = ni) (hr : Rb w1 D l) (hD : 0 < l.length → ∀ ad, D = some ad → ¬ OwnB vL vW ad.block) :
    Calls Tryd.prog 76 #[vL, vW, va, vb, vi] w1 fun e w' => ∃ v1 v2 es', e = .returned (.tuple #[v1, v2]) ∧ QuI w0 w' v1 v2 es' (ls ++ [l, l]) ∧ Fr (OwnB vL vW) w1 w' ∧ (∀ k, OwnD (ls ++ [l, l]).length (rowV es') k → OwnD ls.length (rowV es) k ∨ va.ownBlock = some k ∨ vb.ownBlock = some k) ∧ (∀ k, v1.ownBlock = some k → vL.ownBlock = some k ∨ w1.heap.size ≤ k) := by
  obtain ⟨L1, k1, hvL, -, -⟩ := h.l.rbs
  obtain ⟨L2, k2, hvW, -, -⟩ := Kd.R_reads h.w
  obtain ⟨D1, d1, hva, -, -⟩ := ha.reads
  obtain ⟨D2, d2, hvb, -, -⟩ := hb.reads
  subst hvL hvW hva hvb hi
  have hes := h.l.len
  refine (twice_raw w1 w0.heap.size ls.length k1 ls.length k2 l.length d1 l.length d2 ni ci L1 L2 D1 D2 D es ls l h.fr.size h.l.arr h.w hr hni hD (by omega) (by omega)).mono ?_
  rintro e w' ⟨v1, v2, rfl, ⟨hA, hAo⟩, ⟨hS, hSo⟩, hf⟩
  have hz := hf.size
  have hz0 := h.fr.size
  have ha' := (ha.frB h.l.arr h.w hf).lower hB2
  have hb' := (hb.frB h.l.arr h.w hf).lower hB3
  have hlen : (ls ++ [l, l]).length = ls.length + 2 := by simp
  have hrow : ∀ j, j < (ls ++ [l, l]).length → (j < ls.length ∧ rowV (es ++ [(D1, l.length, d1), (D2, l.length, d2)]) j = rowV es j ∧ rowL (ls ++ [l, l]) j = rowL ls j) ∨ (j = ls.length ∧ rowV (es ++ [(D1, l.length, d1), (D2, l.length, d2)]) j = .slice D1 l.length d1 ∧ rowL (ls ++ [l, l]) j = l) ∨ (j = ls.length + 1 ∧ rowV (es ++ [(D1, l.length, d1), (D2, l.length, d2)]) j = .slice D2 l.length d2 ∧ rowL (ls ++ [l, l]) j = l) := fun j hj => by
    rw [hlen] at hj
    have : j < ls.length ∨ j = ls.length ∨ j = ls.length + 1 := by omega
    rcases this with h1 | rfl | rfl
    · refine .inl ⟨h1, ?_, ?_⟩
      · rw [rowV_at _ _ (by simp; omega), rowV_at _ _ (by omega), List.getElem_append_left (by omega)]
      · rw [rowL_at _ _ (by simp; omega), rowL_at _ _ h1, List.getElem_append_left h1]
    · refine .inr (.inl ⟨rfl, ?_, ?_⟩)
      · rw [rowV_at _ _ (by simp; omega), List.getElem_append_right (by omega)]; simp [hes, slcV]
      · rw [rowL_at _ _ (by simp), List.getElem_append_right (by omega)]; simp
    · refine .inr (.inr ⟨rfl, ?_, ?_⟩)
      · rw [rowV_at _ _ (by simp; omega), List.getElem_append_right (by omega)]; simp [hes, slcV]
      · rw [rowL_at _ _ (by simp), List.getElem_append_right (by omega)]; simp
  have hkeep : ∀ j, j < ls.length → Mine w' w0.heap.size (rowV es j) (bi (rowL ls j)) := fun j hj => (h.l.rows.mine j hj).frB h.l.arr h.w hf
  refine ⟨v1, v2, _, rfl, ⟨⟨by simp; omega, hA, ⟨fun j hj => ?_, fun i j hi hj hij k hk hk2 => ?_⟩⟩, hS, ?_, fun x hx => ?_⟩, hf, fun k hk => ?_, fun k hk => ?_⟩
  · rcases hrow j hj with ⟨h1, h2, h3⟩ | ⟨h1, h2, h3⟩ | ⟨h1, h2, h3⟩
    · rw [h2, h3]; exact hkeep j h1
    · rw [h2, h3]; exact ha'
    · rw [h2, h3]; exact hb'
  · rcases hrow i hi with ⟨h1, h2, -⟩ | ⟨h1, h2, -⟩ | ⟨h1, h2, -⟩ <;> rcases hrow j hj with ⟨g1, g2, -⟩ | ⟨g1, g2, -⟩ | ⟨g1, g2, -⟩ <;> rw [h2] at hk <;> rw [g2] at hk2
    · exact h.l.rows.sep i j h1 g1 hij k hk hk2
    · exact hna k hk2 ⟨i, h1, hk⟩
    · exact hnb k hk2 ⟨i, h1, hk⟩
    · exact hna k hk ⟨j, g1, hk2⟩
    · omega
    · exact hab k hk hk2
    · exact hnb k hk ⟨j, g1, hk2⟩
    · exact hab k hk2 hk
    · omega
  · exact h.fr.trans hf (fun k hk => .inr (h.ne (hk.imp .inl id)).1)
  · rcases List.mem_append.1 hx with hx | hx
    · exact h.sm x hx
    · have : x = l := by simpa using hx
      rw [this]; exact hl
  · obtain ⟨j, hj, hk⟩ := hk
    rcases hrow j hj with ⟨h1, h2, -⟩ | ⟨h1, h2, -⟩ | ⟨h1, h2, -⟩ <;> rw [h2] at hk
    · exact .inl ⟨j, h1, hk⟩
    · exact .inr (.inl hk)
    · exact .inr (.inr hk)
  · rcases hAo with e | ⟨b, e, hb⟩
    · exact .inl (by rw [← e, hk])
    · rw [e] at hk; injection hk with hk; exact .inr (by omega)
/-- The third list one's own. -/
theorem QuI.twiceV_calls {w0 w1 : World} {vL vW : Value} {es : List Slc} {ls : List (List UInt8)} (h : QuI w0 w1 vL vW es ls) (hn : ls.length ≤ 1000) {va vb vi : Value} {l : List UInt8} {B2 B3 B4 : Nat} (hl : l.length ≤ 67108864) (ha : Mine w1 B2 va (bi l)) (hb : Mine w1 B3 vb (bi l)) (hB2 : w0.heap.size ≤ B2) (hB3 : w0.heap.size ≤ B3) (hab : NeRow va vb)
    (hna : ∀ k, va.ownBlock = some k → ¬ OwnD ls.length (rowV es) k) (hnb : ∀ k, vb.ownBlock = some k → ¬ OwnD ls.length (rowV es) k) (hi : Mine w1 B4 vi (bi l)) :
    Calls Tryd.prog 76 #[vL, vW, va, vb, vi] w1 fun e w' => ∃ v1 v2 es', e = .returned (.tuple #[v1, v2]) ∧ QuI w0 w' v1 v2 es' (ls ++ [l, l]) ∧ Fr (OwnB vL vW) w1 w' ∧ (∀ k, OwnD (ls ++ [l, l]).length (rowV es') k → OwnD ls.length (rowV es) k ∨ va.ownBlock = some k ∨ vb.ownBlock = some k) ∧ (∀ k, v1.ownBlock = some k → vL.ownBlock = some k ∨ w1.heap.size ≤ k) := by
  obtain ⟨D, c, hv, hc, hr⟩ := hi.reads
  refine h.twice_calls hn hl ha hb hB2 hB3 hab hna hnb hv rfl hr (fun _ ad e h2 => ?_)
  have ho : vi.ownBlock = some ad.block := by rw [hv, e]; rfl
  obtain ⟨i1, o1⟩ := Kd.R_own hi
  rcases h2 with h2 | h2
  · obtain ⟨i2, o2⟩ := Kd.R_own h.l.arr
    exact ne_types o1 o2 (by decide) _ ho h2
  · obtain ⟨i2, o2⟩ := Kd.R_own h.w
    exact ne_types o1 o2 (by decide) _ ho h2
/-- Two answers made since W, one behind the other, and what they must be. -/
theorem QuI.pair_calls {w0 W w2 w3 : World} {vL vW : Value} {es : List Slc} {ls : List (List UInt8)} (h : QuI w0 W vL vW es ls) (hn : ls.length ≤ 1000) {va vb vi : Value} {l : List UInt8} {B4 : Nat} (hl : l.length ≤ 67108864) (hf2 : Fr No W w2) (ha : Mine w2 W.heap.size va (bi l)) {w4 : World} (hf3 : Fr No w2 w3) (hb : Mine w3 w2.heap.size vb (bi l)) (hf4 : Fr No w3 w4) (hi : Mine w4 B4 vi (bi l)) :
    Calls Tryd.prog 76 #[vL, vW, va, vb, vi] w4 fun e w' => ∃ v1 v2 es', e = .returned (.tuple #[v1, v2]) ∧ QuI w0 w' v1 v2 es' (ls ++ [l, l]) ∧ (∀ B v m, Mine w4 B v (bi m) → Mine w' B v (bi m)) ∧ w4.heap.size ≤ w'.heap.size := by
  have h4 := h.frN ((hf2.then_ hf3).then_ hf4)
  have hz := h.fr.size
  have hz2 := hf2.size
  have hz3 := hf3.size
  refine (h4.twiceV_calls hn hl ((ha.fr hf3 (fun _ _ => id)).fr hf4 (fun _ _ => id)) (hb.fr hf4 (fun _ _ => id)) hz (by omega) (fun k hk hk2 => ?_) (fun k hk h2 => ?_) (fun k hk h2 => ?_) hi).mono ?_
  · have := (ha.base k hk).2
    have := (hb.base k hk2).1
    omega
  · have := (ha.base k hk).1
    have := (h.l.base (.inr h2)).2
    omega
  · have := (hb.base k hk).1
    have := (h.l.base (.inr h2)).2
    omega
  · rintro e w' ⟨v1, v2, es', rfl, hq, hf, -, -⟩
    exact ⟨v1, v2, es', rfl, hq, fun B v m hm => hm.frB h4.l.arr h4.w hf, hf.size⟩
/-- Two answers that are lists, in the midst: rows below k have been collected. -/
structure PairI (w0 wr : World) (vL vW : Value) (es : List Slc) (ls : List (List UInt8)) (Bc Bd : Nat) (vc vd : Value) (ec ed : List Slc) (L : LL) (k : Nat) : Prop where
  q : QuI w0 wr vL vW es ls
  c : LstV wr Bc vc ec L
  d : LstV wr Bd vd ed L
  bc : w0.heap.size ≤ Bc
  bd : w0.heap.size ≤ Bd
  nc : NeRow vc vL
  nd : NeRow vd vL
  sep : ∀ b, OwnD L.length (rowV ec) b → ¬ OwnD L.length (rowV ed) b
  fc : ∀ j, k ≤ j → j < L.length → ∀ b, (rowV ec j).ownBlock = some b → ¬ OwnD ls.length (rowV es) b
  fd : ∀ j, k ≤ j → j < L.length → ∀ b, (rowV ed j).ownBlock = some b → ¬ OwnD ls.length (rowV es) b
theorem PairI.start {w0 W w2 w3 : World} {vL vW vc vd : Value} {es ec ed : List Slc} {ls L : LL} (h : QuI w0 W vL vW es ls) (hf2 : Fr No W w2) (hc : LstV w2 W.heap.size vc ec L) (hf3 : Fr No w2 w3) (hd : LstV w3 w2.heap.size vd ed L) : PairI w0 w3 vL vW es ls W.heap.size w2.heap.size vc vd ec ed L 0 := by
  have hz := h.fr.size
  have hz2 := hf2.size
  have hL : ∀ k, vL.ownBlock = some k → k < W.heap.size := fun k hk => (h.l.base (.inl hk)).2
  have hR : ∀ k, OwnD ls.length (rowV es) k → k < W.heap.size := fun k hk => (h.l.base (.inr hk)).2
  refine ⟨h.frN (hf2.then_ hf3), hc.fr hf3 (fun _ _ => id), hd, hz, by omega, fun k hk h2 => ?_, fun k hk h2 => ?_, fun b h1 h2 => ?_, fun j _ hj b hb h2 => ?_, fun j _ hj b hb h2 => ?_⟩
  · have := (hc.base (.inl hk)).1; have := hL k h2; omega
  · have := (hd.base (.inl hk)).1; have := hL k h2; omega
  · have := (hc.base (.inr h1)).2; have := (hd.base (.inr h2)).1; omega
  · have := (hc.base (.inr ⟨j, hj, hb⟩)).1; have := hR b h2; omega
  · have := (hd.base (.inr ⟨j, hj, hb⟩)).1; have := hR b h2; omega
theorem PairI.frN {w0 wr w1 : World} {vL vW vc vd : Value} {es ec ed : List Slc} {ls L : LL} {Bc Bd k : Nat} (h : PairI w0 wr vL vW es ls Bc Bd vc vd ec ed L k) (hf : Fr No wr w1) : PairI w0 w1 vL vW es ls Bc Bd vc vd ec ed L k :=
  ⟨h.q.frN hf, h.c.fr hf (fun _ _ => id), h.d.fr hf (fun _ _ => id), h.bc, h.bd, h.nc, h.nd, h.sep, h.fc, h.fd⟩
theorem PairI.step_calls {w0 w1 : World} {vL vW vc vd : Value} {es ec ed : List Slc} {ls L : LL} {Bc Bd k : Nat} (h : PairI w0 w1 vL vW es ls Bc Bd vc vd ec ed L k) (hn : ls.length ≤ 1000) (hk : k < L.length) (hl : (rowL L k).length ≤ 67108864) {vi : Value} {D : Option Addr} {ni ci : Nat} (hi : vi = .slice D ni ci) (hni : (rowL L k).length = ni) (hr : Rb w1 D (rowL L k)) (hD : 0 < (rowL L k).length → ∀ ad, D = some ad → ¬ OwnB vL vW ad.block) :
    Calls Tryd.prog 76 #[vL, vW, rowV ec k, rowV ed k, vi] w1 fun e w' => ∃ v1 v2 es', e = .returned (.tuple #[v1, v2]) ∧ PairI w0 w' v1 v2 es' (ls ++ [rowL L k, rowL L k]) Bc Bd vc vd ec ed L (k + 1) ∧ Fr (OwnB vL vW) w1 w' ∧ (∀ k, v1.ownBlock = some k → vL.ownBlock = some k ∨ w1.heap.size ≤ k) := by
  refine (h.q.twice_calls hn hl (h.c.rows.mine k hk) (h.d.rows.mine k hk) h.bc h.bd (fun b h1 h2 => h.sep b ⟨k, hk, h1⟩ ⟨k, hk, h2⟩) (fun b hb => h.fc k (Nat.le_refl _) hk b hb) (fun b hb => h.fd k (Nat.le_refl _) hk b hb) hi hni hr hD).mono ?_
  rintro e w' ⟨v1, v2, es', rfl, hq, hf, hO, hv⟩
  have hc := h.c.frB h.q.l.arr h.q.w h.nc hf
  have hd := h.d.frB h.q.l.arr h.q.w h.nd hf
  have hne : ∀ {v : Value}, (∀ k, v.ownBlock = some k → k < w1.heap.size) → NeRow v vL → NeRow v v1 := fun hlt hn2 b hb h2 => by
    rcases hv b h2 with h3 | h3
    · exact hn2 b hb h3
    · have := hlt b hb; omega
  refine ⟨v1, v2, es', rfl, ⟨hq, hc, hd, h.bc, h.bd, hne (fun b hb => (h.c.base (.inl hb)).2) h.nc, hne (fun b hb => (h.d.base (.inl hb)).2) h.nd, h.sep, fun j hj hj2 b hb h2 => ?_, fun j hj hj2 b hb h2 => ?_⟩, hf, hv⟩
  · rcases hO b h2 with h3 | h3 | h3
    · exact h.fc j (by omega) hj2 b hb h3
    · exact h.c.rows.sep j k hj2 hk (by omega) b hb h3
    · exact h.sep b ⟨j, hj2, hb⟩ ⟨k, hk, h3⟩
  · rcases hO b h2 with h3 | h3 | h3
    · exact h.fd j (by omega) hj2 b hb h3
    · exact h.sep b ⟨k, hk, h3⟩ ⟨j, hj2, hb⟩
    · exact h.d.rows.sep j k hj2 hk (by omega) b hb h3
theorem LstV.at_ {w : World} {B : Nat} {A : Option Addr} {n c : Nat} {es : List Slc} {ls : LL} (h : LstV w B (.slice A n c) es ls) (i : Nat) (hi : i < ls.length) : ∃ ad, A = some ad ∧ w.cell? (ad.add i) = some (rowV es i) := by
  obtain ⟨A2, c2, hv, -, hc⟩ := h.cell
  injection hv with e1 e2 e3
  subst e1
  exact hc i hi
theorem LstV.cellN {w : World} {B : Nat} {ad : Addr} {n c : Nat} {es : List Slc} {ls : LL} (h : LstV w B (.slice (some ad) n c) es ls) (i : Nat) (hi : i < ls.length) : w.cell? (ad.add i) = some (rowV es i) := by
  obtain ⟨ad2, e, hc⟩ := h.at_ i hi
  obtain rfl := Option.some.inj e
  exact hc
/-- The third list foreign. -/
theorem PairI.stepF_calls {w0 w1 : World} {vL vW vc vd : Value} {es ec ed : List Slc} {ls L : LL} {Bc Bd k : Nat} (h : PairI w0 w1 vL vW es ls Bc Bd vc vd ec ed L k) (hn : ls.length ≤ 1000) (hk : k < L.length) (hl : (rowL L k).length ≤ 67108864) {D : Option Addr} {ni ci : Nat} (hni : (rowL L k).length = ni) (hr : Rb w0 D (rowL L k)) {vr : Value} {r : List UInt8} (hm : ∃ B, Mine w1 B vr (bi r)) :
    Calls Tryd.prog 76 #[vL, vW, rowV ec k, rowV ed k, .slice D ni ci] w1 fun e w' => ∃ v1 v2 es', e = .returned (.tuple #[v1, v2]) ∧ PairI w0 w' v1 v2 es' (ls ++ [rowL L k, rowL L k]) Bc Bd vc vd ec ed L (k + 1) ∧ ∃ B, Mine w' B vr (bi r) := by
  refine (h.step_calls hn hk hl rfl hni (C_fr hr h.q.fr) (fun hp ad e h2 => ?_)).mono ?_
  · have := hr.lt hp ad e
    have := (h.q.ne (h2.imp .inl id)).1
    omega
  · rintro e w' ⟨v1, v2, es', rfl, hP, hf, -⟩
    obtain ⟨B, hm⟩ := hm
    exact ⟨v1, v2, es', rfl, hP, B, hm.frB h.q.l.arr h.q.w hf⟩
/-- The third list a row of such a list too. -/
theorem PairI.stepV_calls {w0 w1 : World} {vL vW vc vd vw : Value} {es ec ed ew : List Slc} {ls L : LL} {Bc Bd Bw k : Nat} (h : PairI w0 w1 vL vW es ls Bc Bd vc vd ec ed L k) (hn : ls.length ≤ 1000) (hk : k < L.length) (hl : (rowL L k).length ≤ 67108864) (hw : LstV w1 Bw vw ew L ∧ NeRow vw vL) {vr : Value} {r : List UInt8} (hm : ∃ B, Mine w1 B vr (bi r)) :
    Calls Tryd.prog 76 #[vL, vW, rowV ec k, rowV ed k, rowV ew k] w1 fun e w' => ∃ v1 v2 es', e = .returned (.tuple #[v1, v2]) ∧ PairI w0 w' v1 v2 es' (ls ++ [rowL L k, rowL L k]) Bc Bd vc vd ec ed L (k + 1) ∧ (LstV w' Bw vw ew L ∧ NeRow vw v1) ∧ ∃ B, Mine w' B vr (bi r) := by
  have hmw := hw.1.rows.mine k hk
  obtain ⟨D, c, hv, hc, hr⟩ := hmw.reads
  refine (h.step_calls hn hk hl hv rfl hr (fun _ ad e h2 => ?_)).mono ?_
  · have ho : (rowV ew k).ownBlock = some ad.block := by rw [hv, e]; rfl
    obtain ⟨i1, o1⟩ := Kd.R_own hmw
    rcases h2 with h2 | h2
    · obtain ⟨i2, o2⟩ := Kd.R_own h.q.l.arr
      exact ne_types o1 o2 (by decide) _ ho h2
    · obtain ⟨i2, o2⟩ := Kd.R_own h.q.w
      exact ne_types o1 o2 (by decide) _ ho h2
  · rintro e w' ⟨v1, v2, es', rfl, hP, hf, hv1⟩
    obtain ⟨B, hm⟩ := hm
    refine ⟨v1, v2, es', rfl, hP, ⟨hw.1.frB h.q.l.arr h.q.w hw.2 hf, fun b hb h2 => ?_⟩, B, hm.frB h.q.l.arr h.q.w hf⟩
    rcases hv1 b h2 with h3 | h3
    · exact hw.2 b hb h3
    · have := (hw.1.base (.inl hb)).2; omega
/-- The tables, in all worlds that come of w. -/
structure Tabs (w : World) : Prop where
  k : ∀ W, Fr No w W → KAt W
  f : ∀ W, Fr No w W → FirstAt W
  s : ∀ W, Fr No w W → KeysAt W
/-- What quiet has at hand. -/
structure QuS (w wk : World) (v3 v4 : Value) (N : Nat) (vf vd vr : Value) (f d r : List UInt8) : Prop where
  q : ∃ es ls, QuI w wk v3 v4 es ls ∧ ls.length ≤ N
  mf : ∃ B, Mine wk B vf (bi f)
  md : ∃ B, Mine wk B vd (bi d)
  mr : ∃ B, Mine wk B vr (bi r)
theorem QuS.fr {w wk : World} {v3 v4 : Value} {N : Nat} {vf vd vr : Value} {f d r : List UInt8} (h : QuS w wk v3 v4 N vf vd vr f d r) : Fr No w wk := by
  obtain ⟨es, ls, hq, -⟩ := h.q
  exact hq.fr
theorem QuS.frN {w wk w1 : World} {v3 v4 : Value} {N : Nat} {vf vd vr : Value} {f d r : List UInt8} (h : QuS w wk v3 v4 N vf vd vr f d r) (hf : Fr No wk w1) : QuS w w1 v3 v4 N vf vd vr f d r := by
  obtain ⟨es, ls, hq, hn⟩ := h.q
  obtain ⟨B1, m1⟩ := h.mf
  obtain ⟨B2, m2⟩ := h.md
  obtain ⟨B3, m3⟩ := h.mr
  exact ⟨⟨es, ls, hq.frN hf, hn⟩, ⟨B1, m1.fr hf (fun _ _ => id)⟩, ⟨B2, m2.fr hf (fun _ _ => id)⟩, ⟨B3, m3.fr hf (fun _ _ => id)⟩⟩
theorem QuS.pair_calls {w W w2 w3 w4 : World} {v3 v4 : Value} {N : Nat} {vf vd vr : Value} {f d r : List UInt8} (h : QuS w W v3 v4 N vf vd vr f d r) (hN : N ≤ 900) {va vb vi : Value} {l : List UInt8} (hl : l.length ≤ 67108864) (hf2 : Fr No W w2) (ha : Mine w2 W.heap.size va (bi l)) (hf3 : Fr No w2 w3) (hb : Mine w3 w2.heap.size vb (bi l)) (hf4 : Fr No w3 w4) (hi : ∃ B, Mine w4 B vi (bi l)) :
    Calls Tryd.prog 76 #[v3, v4, va, vb, vi] w4 fun e w' => ∃ v1 v2, e = .returned (.tuple #[v1, v2]) ∧ QuS w w' v1 v2 (N + 2) vf vd vr f d r := by
  obtain ⟨es, ls, hq, hn⟩ := h.q
  obtain ⟨B4, hi⟩ := hi
  have h4 := h.frN ((hf2.then_ hf3).then_ hf4)
  obtain ⟨B1, m1⟩ := h4.mf
  obtain ⟨B2, m2⟩ := h4.md
  obtain ⟨B3, m3⟩ := h4.mr
  refine (hq.pair_calls (by omega) hl hf2 ha hf3 hb hf4 hi).mono ?_
  rintro e w' ⟨v1, v2, es', rfl, hq', hk, -⟩
  exact ⟨v1, v2, rfl, ⟨es', _, hq', by simp; omega⟩, ⟨B1, hk _ _ _ m1⟩, ⟨B2, hk _ _ _ m2⟩, ⟨B3, hk _ _ _ m3⟩⟩
section
variable {w wk : World} {v3 v4 : Value} {N : Nat} {vf vd vr : Value} {f d r : List UInt8}
theorem QuS.sum_calls (h : QuS w wk v3 v4 N vf vd vr f d r) (hl : f.length ≤ 67108864) (hT : Tabs w) : Calls Tryd.prog 22 #[vf] wk fun e w' => ∃ u, e = .returned u ∧ Mine w' wk.heap.size u (bi (sha f)) ∧ Fr No wk w' := by
  obtain ⟨B1, m1⟩ := h.mf
  exact sumV_calls m1 (by omega) (hT.k _ h.fr) (hT.f _ h.fr)
theorem QuS.refSum_calls (h : QuS w wk v3 v4 N vf vd vr f d r) (hl : f.length ≤ 67108864) (hT : Tabs w) : Calls Tryd.prog 24 #[vf] wk fun e w' => ∃ u, e = .returned u ∧ Mine w' wk.heap.size u (bi (sha f)) ∧ Fr No wk w' := by
  obtain ⟨B1, m1⟩ := h.mf
  exact refSumV_calls m1 (by omega) (hT.s _ h.fr)
theorem QuS.parts_calls {q : LL} (h : QuS w wk v3 v4 N vf vd vr (frameL q) d r) (hl : (frameL q).length ≤ 67108864) (hp : partsL (frameL q) = q ∧ partsE (frameL q) = 0) : Calls Tryd.prog 45 #[vf] wk fun e w' => ∃ u es, e = .returned (.tuple #[u, .int .i64 0]) ∧ LstV w' wk.heap.size u es q ∧ Fr No wk w' := by
  obtain ⟨B1, m1⟩ := h.mf
  refine (partsV_calls m1 (by omega)).mono ?_
  rintro e w' ⟨u, rfl, hm, hf⟩
  rw [hp.1] at hm
  rw [hp.2]
  obtain ⟨es, he⟩ := hm.lst
  exact ⟨u, es, rfl, he, hf⟩
end
theorem mine_lit4 (W : World) (a b c d : UInt8) : Mine (W.alloc (.cells #[.int .u8 (a.toNat : Int), .int .u8 (b.toNat : Int), .int .u8 (c.toNat : Int), .int .u8 (d.toNat : Int)] 5)) W.heap.size (.slice (some ⟨W.heap.size, 0, none⟩) 4 4) (bi [a, b, c, d]) :=
  Kd.R_of_own (World.ownsRow_lit (base := W.heap.size) (e := 5) (size := 1) W #[.int .u8 (a.toNat : Int), .int .u8 (b.toNat : Int), .int .u8 (c.toNat : Int), .int .u8 (d.toNat : Int)] 4 (Nat.le_refl _) (by simp [maxLen]) rfl) (fun _ _ => trivial)
/-! ### the ways of a tree -/
theorem way_32q (ls : LL) (a : Nat) : ∀ p ∈ wayL ls a, p.length = 32 := by
  have key : ∀ n (ls : LL), ls.length = n → ∀ t, ∀ p ∈ wayL ls t, p.length = 32 := by
    intro n
    induction n using Nat.strongRecOn with
    | _ n ih =>
      intro ls hn t p hp
      by_cases h : n < 2
      · rw [way_few ls t (by omega)] at hp; cases hp
      · have c1 := cut_pos n
        have c2 := cut_lt (n := n) (by omega)
        by_cases ht : t < cutN n
        · rw [way_left ls t (by omega) (by rw [hn]; exact ht), hn] at hp
          rcases List.mem_append.1 hp with hp | hp
          · exact ih (cutN n) c2 _ (by simp; omega) t p hp
          · rw [List.mem_singleton.1 hp]; exact tree_length _
        · rw [way_right ls t (by omega) (by rw [hn]; exact ht), hn] at hp
          rcases List.mem_append.1 hp with hp | hp
          · exact ih (n - cutN n) (by omega) _ (by simp; omega) _ p hp
          · rw [List.mem_singleton.1 hp]; exact tree_length _
  exact key _ ls rfl a
theorem rebuildQ_calls (q : LL) (n a : Nat) (hq : q.length = n) (ha : a < n) (h2 : n ≤ 200) {w : World} {B : Nat} {vw : Value} {ew : List Slc} (hw : LstV w B vw ew (wayL q a)) {D : Option Addr} {nl cl : Nat} {leaf : List UInt8} (hle : leaf = q[a]'(by omega)) (hr : Rb w D leaf) (hnl : leaf.length = nl) (hcl : nl ≤ cl) (hs : nl ≤ 140737488351232) (b : Int) (hb : b = a) (hK : KAt w) (hF : FirstAt w) :
    Calls Tryd.prog 38 #[.slice D nl cl, .int .i64 b, .int .i64 (n : Int), vw] w fun e w' => ∃ v, e = .returned (.tuple #[v, .int .i64 0]) ∧ Mine w' w.heap.size v (bi (treeL q)) ∧ Fr No w w' := by
  subst hnl hb
  obtain ⟨A, c, rfl, hc, hrw⟩ := hw.rbs
  have hwl := way_length q a
  rw [hq] at hwl
  have h32 := way_32q q a
  have hlt := steps_lt n a (by omega)
  have h := rebuild_walk leaf hs (wayL q a) D A cl c a n w hr hcl hrw (by omega) (fun l hl => by rw [h32 l hl]; decide) hK hF
  obtain ⟨e1, e2⟩ := reb_good (leaf := leaf) (a := a) (n := n) (ps := wayL q a) (by omega) (by omega) ha hwl h32
  rw [e1, e2, hle, come_way_n n q hq a (by omega)] at h
  rwa [hle]
def hexQ : List UInt8 := [48, 48, 102, 102, 49, 55, 48, 48]
theorem hexQ_is : unhexL hexQ = some [0, 255, 23, 0] := by decide +kernel
theorem unhexQ_calls (w : World) : Calls Tryd.prog 49 #[.string ⟨#[48, 48, 102, 102, 49, 55, 48, 48]⟩] w fun e w' => ∃ v, e = .returned (.tuple #[v, .int .i64 0]) ∧ Mine w' w.heap.size v (bi [0, 255, 23, 0]) ∧ Fr No w w' := by
  refine (unhex_calls hexQ w (by decide)).mono ?_
  rintro e w' ⟨hf, ⟨v, m, h1, h2, h3⟩ | ⟨h1, -⟩⟩
  · rw [hexQ_is] at h1
    obtain rfl := Option.some.inj h1
    exact ⟨v, h2, h3, hf⟩
  · rw [hexQ_is] at h1; cases h1
end Go.Proofs.YtbaeddppihjgfaaDoor.Sg
namespace Go.Proofs.YtbaeddppihjgfaaDoor.Sg
open Go Go.RowKit Go.Proofs.YtbaeddppihjgfaaDoorW.PrintWords
set_option linter.unusedVariables false
theorem marked_at2 (n c : Nat) (W : World) (hn : n ≤ 1099511627776) (hc : c ≤ 1099511627776) : Calls Tryd.prog 74 #[.int .i64 (n : Int), .int .i64 (c : Int)] W fun e w' => ∃ D cd, e = .returned (.slice D c cd) ∧ Rb w' D (markL n c) ∧ c ≤ cd ∧ Fr No W w' ∧ ∀ ad, D = some ad → W.heap.size ≤ ad.block := by
  refine (marked_calls n c W hn hc).mono ?_
  rintro e w' ⟨v, rfl, hm, hf⟩
  obtain ⟨D, cd, rfl, hl, hr⟩ := hm.reads
  rw [markL_length] at hl
  have hb := fun ad (e : D = some ad) => (hm.base ad.block (by rw [e]; rfl)).1
  rw [markL_length]
  exact ⟨D, cd, rfl, hr, hl, hf, hb⟩
theorem lit1q (W : World) (s : Slc) : KV.C (W.alloc (.cells #[slcV s] 22)) (some ⟨W.heap.size, 0, none⟩) 1 [s] := by
  refine Kd.C_of_reads (d := s) ⟨rfl, by decide, fun _ => ⟨_, rfl, fun j hj => ?_⟩⟩
  obtain rfl : j = 0 := by omega
  rw [add_plain, World.cell?_alloc_mark]
  simp
theorem types_BL {w : World} {B B2 : Nat} {u v : Value} {xs : List Int} {es : List Slc} (h1 : Mine w B u xs) (h2 : Kd.R KV 22 w B2 (fun _ => True) v es) (k : Nat) (hu : u.ownBlock = some k) (hv : v.ownBlock = some k) : False := by
  obtain ⟨i1, o1⟩ := Kd.R_own h1
  obtain ⟨i2, o2⟩ := Kd.R_own h2
  exact ne_types o1 o2 (by decide) k hu hv
theorem kept_after {w w1 w2 : World} {v v1 : Value} {n : Nat} (hf : Fr No w w1) (h : Kept1 w1 w2 v v1 n) : Kept1 w w2 v v1 n :=
  ⟨(hf.mono (fun _ h => h.elim)).trans h.fr (fun k hk => .inl hk), h.hat.imp id (fun ⟨k, e, hk⟩ => ⟨k, e, Nat.le_trans hf.size hk⟩), fun b u ys hu he hl => h.old b u ys (hu.fr hf (fun _ _ => id)) he hl, (BySt.of_fr hf).trans h.byt⟩
/-- Rows below k have been appended to. -/
structure MoreI (w7 wr : World) (B n : Nat) (vs : Nat → Value) (M : Nat → List UInt8) (v : Value) (ms : List Slc) (k : Nat) : Prop where
  len : ms.length = k
  arr : Kd.R KV 22 wr w7.heap.size (fun _ => True) v ms
  rows : RowsF wr B n vs M
  fr : Fr (OwnD n vs) w7 wr
  el : ∀ j (h : j < ms.length), Mine wr B (slcV ms[j]) (bi (M j ++ markL (1048576 + j) 70)) ∧ ∀ b, (slcV ms[j]).ownBlock = some b → (vs j).ownBlock = some b ∨ w7.heap.size ≤ b
structure MoreG (w7 w' : World) (B n : Nat) (vs : Nat → Value) (M : Nat → List UInt8) (v : Value) (ms : List Slc) (k : Nat) (s : Slc) : Prop where
  i : MoreI w7 w' B n vs M v ms k
  g : Mine w' B (slcV s) (bi (M k ++ markL (1048576 + k) 70))
  at_ : ∀ b, (slcV s).ownBlock = some b → (vs k).ownBlock = some b ∨ w7.heap.size ≤ b
section
variable {w7 wr : World} {B n : Nat} {vs : Nat → Value} {M : Nat → List UInt8} {v : Value} {ms : List Slc} {k : Nat}
theorem MoreI.start (h : RowsF wr B n vs M) : MoreI wr wr B n vs M (.slice none 0 0) [] 0 :=
  ⟨rfl, Kd.R_nil _ _ _ _ _, h, Fr.refl _ _, fun j h => absurd h (by simp)⟩
theorem MoreI.grow_calls (h : MoreI w7 wr B n vs M v ms k) (hk : k < n) (hB : B ≤ w7.heap.size) (hM : (M k).length ≤ 67108864) (hlt : ∀ b, OwnD n vs b → b < w7.heap.size) {W3 : World} {D : Option Addr} {cd : Nat} (hf : Fr No wr W3) (hr : Rb W3 D (markL (1048576 + k) 70)) (hn : ∀ ad, D = some ad → wr.heap.size ≤ ad.block) (hc : 70 ≤ cd) :
    Calls Tryd.prog 75 #[vs k, .slice D 70 cd] W3 fun e w' => ∃ Dg mg cg, e = .returned (.slice Dg mg cg) ∧ MoreG w7 w' B n vs M v ms k (Dg, mg, cg) := by
  have hz := h.fr.size
  have hz3 := hf.size
  have hml : (markL (1048576 + k) 70).length = 70 := markL_length _ _
  have hg := grown_calls W3 B (vs k) (M k) (markL (1048576 + k) 70) D cd ((h.rows.mine k hk).fr hf (fun _ _ => id)) hr (fun ad e e2 => by have := hlt _ ⟨k, hk, e2⟩; have := hn ad e; omega) (by omega) (by omega) (by omega)
  rw [hml] at hg
  refine hg.mono ?_
  rintro e w' ⟨g, rfl, hm, hkp⟩
  have hk2 := kept_after hf hkp
  have hzw := hk2.fr.size
  obtain ⟨Dg, cg, hge, -, -⟩ := hm.reads
  subst hge
  have hnv : ∀ b, v.ownBlock = some b → ¬ (vs k).ownBlock = some b := fun b hb h2 => by
    have := (ownS_lt h.arr b hb).1
    have := hlt b ⟨k, hk, h2⟩
    omega
  refine ⟨Dg, _, cg, rfl, ⟨h.len, scalar_fr h.arr hk2.fr hnv, ⟨fun j hj => ?_, h.rows.sep⟩, h.fr.trans hk2.fr (fun b hb => .inl ⟨k, hk, hb⟩), fun j hj => ?_⟩, hm, fun b hb => ?_⟩
  · by_cases e : j = k
    · subst e; exact hk2.old B _ _ (h.rows.mine j hj) rfl (by rw [bi_length]; exact Nat.le_refl _)
    · exact (h.rows.mine j hj).fr hk2.fr (fun b hb h2 => h.rows.sep j k hj hk e b hb h2)
  · obtain ⟨e1, e2⟩ := h.el j hj
    refine ⟨e1.fr hk2.fr (fun b hb h2 => ?_), e2⟩
    have hjk : j < k := by rw [← h.len]; exact hj
    rcases e2 b hb with h3 | h3
    · exact h.rows.sep j k (by omega) hk (by omega) b h3 h2
    · have := hlt b ⟨k, hk, h2⟩; omega
  · rcases hk2.hat with e | ⟨q, e, hq⟩
    · left; rw [← e]; exact hb
    · right
      have hb' : (Value.slice Dg (M k ++ markL (1048576 + k) 70).length cg).ownBlock = some b := hb
      rw [hb'] at e
      injection e with e
      omega
theorem MoreG.push {w' W w1 : World} {s : Slc} {v1 : Value} (h : MoreG w7 w' B n vs M v ms k s) (hm : Kd.R KV 22 w1 w7.heap.size (fun _ => True) v1 (ms ++ [s])) (hfa : Fr No w' W) (hf : Fr (fun b => v.ownBlock = some b) W w1) : MoreI w7 w1 B n vs M v1 (ms ++ [s]) (k + 1) := by
  have harr := scalar_fr h.i.arr hfa (fun _ _ => id)
  have hmk : ∀ {u : Value} {xs : List Int}, Mine w' B u xs → Mine w1 B u xs := fun hu => (hu.fr hfa (fun _ _ => id)).fr hf (fun b hb h2 => types_BL (hu.fr hfa (fun _ _ => id)) harr b hb h2)
  refine ⟨by rw [List.length_append, h.i.len]; rfl, hm, ⟨fun j hj => hmk (h.i.rows.mine j hj), h.i.rows.sep⟩, (h.i.fr.then_ hfa).trans hf (fun b hb => .inr (ownS_lt h.i.arr b hb).1), fun j hj => ?_⟩
  by_cases hj2 : j < ms.length
  · rw [List.getElem_append_left hj2]
    exact ⟨hmk (h.i.el j hj2).1, (h.i.el j hj2).2⟩
  · have hjk : j = ms.length := by simp at hj; omega
    subst hjk
    rw [List.getElem_append_right (Nat.le_refl _)]
    simp only [Nat.sub_self, List.getElem_cons_zero]
    rw [h.i.len]
    exact ⟨hmk h.g, h.at_⟩
end
end Go.Proofs.YtbaeddppihjgfaaDoor.Sg
