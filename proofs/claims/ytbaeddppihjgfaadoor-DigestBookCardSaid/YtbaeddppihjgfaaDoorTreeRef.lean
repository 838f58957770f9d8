/- The walks of the reference's joined, over, Root, way, Prove, Steps, come, Rebuild. -/
import Derived.Test.YtbaeddppihjgfaaDoorTreeSums
import Derived.Test.YtbaeddppihjgfaaDoorMgRef
import Derived.Test.YtbaeddppihjgfaaDoorRegionK
namespace Go.Proofs.YtbaeddppihjgfaaDoor.Sg
open Go Go.RowKit Go.Proofs.YtbaeddppihjgfaaDoorW.PrintWords
set_option linter.unusedVariables false
theorem addr_zero (ad : Addr) : ad.add 0 = ad := by unfold Addr.add; cases ad; simp
theorem Rb_none (w : World) : Rb w none [] := ⟨rfl, by simp, fun h => absurd h (by simp)⟩
theorem bi_snoc (p : List UInt8) (c : UInt8) : bi p ++ [un (b2w c)] = bi (p ++ [c]) := by rw [bi_append, un_b2w]; rfl
set_option maxHeartbeats 1000000 in
theorem joined_calls (x : UInt8) (n : Int) (hn : n = (x.toNat : Int)) (a b : List UInt8) (A B : Option Addr) (ca cb : Nat) (w : World) (ha : Rb w A a) (hb : Rb w B b) (hl : a.length + b.length ≤ 140737488352000) :
    Calls Tryd.prog 82 #[.int .u8 n, .slice A a.length ca, .slice B b.length cb] w fun e w' => ∃ v, e = .returned v ∧ Mine w' w.heap.size v (bi (x :: (a ++ b))) ∧ Fr No w w' := by
  have HA := Aside0.mk ha; have HB := Aside0.mk hb
  have HN : Aside0 ([n] = bi [x]) := ⟨by rw [hn]; rfl⟩
  have hl1 : a.length ≤ 140737488352000 := by omega
  have hl2 : b.length ≤ 140737488352000 := by omega
  have HL := Aside0.mk hl
  clear ha hb hn hl
  have HM0 : Aside0 (Mine (w.alloc (.cells #[.int .u8 n] 5)) w.heap.size (.slice (some ⟨w.heap.size, 0, none⟩) 1 1) (bi (x :: a.take 0))) := ⟨by
    have := mine_one w n
    rw [HN.out] at this
    exact this⟩
  have HF0 : Aside0 (Fr No w (w.alloc (.cells #[.int .u8 n] 5))) := ⟨(Fr.refl No w).alloc _⟩
  go_enter Tryd.func82, Tryd.ntmps82
  go_wp2_with fail
  go_loopw [7, 8] (fun v i wr => ∃ k : Nat, k ≤ a.length ∧ i = .int .i64 k ∧ Aside0 (Mine wr w.heap.size v (bi (x :: a.take k))) ∧ Aside0 (Fr No w wr)) (fun _ i _ => a.length - (intOf i).toNat)
  case atStart => exact ⟨0, by omega, rfl, HM0, HF0⟩
  case round =>
    clear HM0 HF0
    obtain ⟨k, hk, rfl, HM, HF⟩ := hrel
    by_cases hlt : k < a.length
    · obtain ⟨bd, hA, hcell⟩ := C_byte (C_fr HA.out HF.out) k hlt
      subst hA
      have HT : Aside0 (bi (x :: a.take k) ++ [un (b2w a[k])] = bi (x :: a.take (k + 1))) := ⟨by rw [List.take_succ_eq_append_getElem hlt, ← List.cons_append, bi_append _ [a[k]], un_b2w]; rfl⟩
      have HLL : Aside0 ((bi (x :: a.take k)).length + 1 ≤ 140737488355328) := ⟨by rw [bi_length, List.length_cons, List.length_take]; omega⟩
      go_wp2_with (at_builtin; refine app_byte (w0 := w) rfl (.tmp 18) (.tmp 23) 22 rfl Tryd.underlying22 infoU8 u7 (bi (x :: a.take k)) (un (b2w a[k])) rfl rfl HM.out HF.out HLL.out ?_; intro v3 w3 hm hf hg)
      rw [HT.out] at hm
      exact ⟨⟨k + 1, by omega, by go_num, ⟨hm⟩, ⟨hf⟩⟩, by simp [intOf]; omega⟩
    · obtain rfl : k = a.length := by omega
      have HM1 : Aside0 (Mine wr w.heap.size u7 (bi (x :: (a ++ b.take 0)))) := ⟨by have := HM.out; rw [List.take_length] at this; simpa using this⟩
      clear HM
      go_wp2_with fail
      obtain ⟨wx, rfl⟩ : ∃ wx, wx = wr := ⟨_, rfl⟩
      go_loopw [7, 9] (fun v i wr => ∃ k : Nat, k ≤ b.length ∧ i = .int .i64 k ∧ Aside0 (Mine wr w.heap.size v (bi (x :: (a ++ b.take k)))) ∧ Aside0 (Fr No w wr)) (fun _ i _ => b.length - (intOf i).toNat)
      case atStart => exact ⟨0, by omega, rfl, HM1, HF⟩
      case round =>
        clear HM1 HF
        obtain ⟨k, hk, rfl, HM, HF⟩ := hrel
        by_cases hlt : k < b.length
        · obtain ⟨bd, hB, hcell⟩ := C_byte (C_fr HB.out HF.out) k hlt
          subst hB
          have HT : Aside0 (bi (x :: (a ++ b.take k)) ++ [un (b2w b[k])] = bi (x :: (a ++ b.take (k + 1)))) := ⟨by rw [bi_snoc, List.take_succ_eq_append_getElem hlt]; simp⟩
          have HLL : Aside0 ((bi (x :: (a ++ b.take k))).length + 1 ≤ 140737488355328) := ⟨by have := HL.out; rw [bi_length, List.length_cons, List.length_append, List.length_take]; omega⟩
          go_wp2_with (at_builtin; refine app_byte (w0 := w) rfl (.tmp 31) (.tmp 36) 22 rfl Tryd.underlying22 infoU8 u7 (bi (x :: (a ++ b.take k))) (un (b2w b[k])) rfl rfl HM.out HF.out HLL.out ?_; intro v3 w3 hm hf hg)
          rw [HT.out] at hm
          exact ⟨⟨k + 1, by omega, by go_num, ⟨hm⟩, ⟨hf⟩⟩, by simp [intOf]; omega⟩
        · obtain rfl : k = b.length := by omega
          rw [List.take_length] at HM
          go_wp2_with fail
          go_ret
          exact ⟨_, rfl, HM.out, HF.out⟩
theorem joined_callsN (x : UInt8) (n : Int) (hn : n = (x.toNat : Int)) (a b : List UInt8) (A B : Option Addr) (la lb ca cb : Nat) (hla : a.length = la) (hlb : b.length = lb) (w : World) (ha : Rb w A a) (hb : Rb w B b) (hl : a.length + b.length ≤ 140737488352000) :
    Calls Tryd.prog 82 #[.int .u8 n, .slice A la ca, .slice B lb cb] w fun e w' => ∃ v, e = .returned v ∧ Mine w' w.heap.size v (bi (x :: (a ++ b))) ∧ Fr No w w' := by
  subst hla hlb
  exact joined_calls x n hn a b A B ca cb w ha hb hl
theorem refSum_callsN (l : List UInt8) (n : Nat) (hn : l.length = n) (A : Option Addr) (c : Nat) (w : World) (hr : Rb w A l) (hl : l.length ≤ 140737488352256) (hK : KeysAt w) :
    Calls Tryd.prog 24 #[.slice A n c] w fun e w' => ∃ v, e = .returned v ∧ Mine w' w.heap.size v (bi (sha l)) ∧ Fr No w w' := by
  subst hn
  exact refSumX_calls l A c w hr hl hK
set_option maxRecDepth 100000 in
set_option maxHeartbeats 4000000 in
theorem over_calls (N : Nat) : ∀ (ls : LL) (A : Option Addr) (c : Nat) (w : World), ls.length = N → Rbs w A ls → N ≤ c → N ≤ 140737488355328 → (∀ l ∈ ls, l.length ≤ 140737488351232) → KeysAt w →
    Calls Tryd.prog 66 #[.slice A N c] w fun e w' => ∃ v, e = .returned v ∧ Mine w' w.heap.size v (bi (treeL ls)) ∧ Fr No w w' := by
  induction N using Nat.strongRecOn with
  | _ N ih =>
  intro ls A c w hN hr hc hn hl hK
  have HR := Aside0.mk hr; have HL := Aside0.mk hl; have HT := Aside0.mk hK; have IH := Aside0.mk ih; have HN := Aside0.mk hN
  clear hr hl hK ih hN
  go_enter Tryd.func66, Tryd.ntmps66
  by_cases h0 : N = 0
  · subst h0
    have he := Aside0.mk (List.eq_nil_of_length_eq_zero HN.out)
    go_wp2_with fail
    refine (refSum_callsN [] 0 rfl none 0 w (Rb_none w) (by simp) HT.out).mono ?_
    rintro e w2 ⟨v, rfl, hm, hf⟩
    go_wp2_with fail
    go_ret
    exact ⟨v, rfl, by rw [he.out, tree_nil]; exact hm, hf⟩
  by_cases h1 : N = 1
  · subst h1
    obtain ⟨l, hl⟩ := List.length_eq_one_iff.1 HN.out
    subst hl
    obtain ⟨ad, Ai, ci, hA, hcell, hci, hrb⟩ := HR.out.at_ 0 (by simp)
    subst hA
    simp only [List.getElem_cons_zero] at hcell hci hrb
    rw [addr_zero] at hcell
    have HRB := Aside0.mk hrb
    have HLL := Aside0.mk (HL.out l (by simp))
    clear hrb
    go_wp2_with fail
    refine (joined_callsN 0 0 rfl l [] _ none l.length 0 ci 0 rfl rfl w HRB.out (Rb_none w) (by have := HLL.out; simp; omega)).mono ?_
    rintro e w2 ⟨v, rfl, hm, hf⟩
    obtain ⟨D, cd, rfl, hcd, hrd⟩ := hm.reads
    have HD := Aside0.mk hrd; have HF := Aside0.mk hf
    clear hm hf hrd hcell
    have HLN : Aside0 ((0 :: (l ++ []) : List UInt8).length ≤ 140737488352256) := ⟨by have := HLL.out; simp; omega⟩
    generalize hj : (0 :: (l ++ []) : List UInt8) = j at *
    have HJ := Aside0.mk hj
    clear hj
    go_wp2_with fail
    refine (refSum_callsN j _ rfl D cd w2 HD.out HLN.out (HT.out.fr HF.out id)).mono ?_
    rintro e w3 ⟨v, rfl, hm, hf⟩
    go_wp2_with fail
    go_ret
    exact ⟨v, rfl, by rw [tree_one]; rw [← HJ.out, List.append_nil] at hm; exact hm.lower HF.out.size, HF.out.then_ hf⟩
  go_wp2_with fail
  refine (cut_calls N (by omega) hn w).mono ?_
  rintro e w2 ⟨rfl, rfl⟩
  have hk1 := cut_pos N
  have hk2 := cut_lt (n := N) (by omega)
  have HTM := Aside0.mk (tree_more ls (by rw [HN.out]; omega))
  rw [HN.out] at HTM
  generalize cutN N = k at *
  obtain ⟨ad, hA⟩ : ∃ ad, A = some ad := by
    obtain ⟨ad, _, _, hA, _⟩ := HR.out.at_ 0 (by rw [HN.out]; omega)
    exact ⟨ad, hA⟩
  subst hA
  have HRS : Aside0 (∀ W, Fr No w W → Rbs W (some ad) (ls.take k) ∧ Rbs W (some (ad.add k)) (ls.drop k)) := ⟨fun W hg => ⟨Rbs_take (HR.out.fr hg) k (by rw [HN.out]; omega), by
    have h := Rbs_drop (c := c) (HR.out.fr hg) k (by rw [HN.out]; omega) (by rw [HN.out]; omega)
    rw [if_neg (by omega)] at h
    exact h⟩⟩
  have hc2 : ¬ c = k := by omega
  go_wp2_with fail
  refine (IH.out k hk2 (ls.take k) _ _ w (by rw [List.length_take, HN.out]; omega) (HRS.out w (Fr.refl _ _)).1 (by omega) (by omega) (fun l h => HL.out l (List.mem_of_mem_take h)) HT.out).mono ?_
  rintro e w3 ⟨v, rfl, hm, hf⟩
  obtain ⟨X, cx, rfl, hcx, hrx⟩ := hm.reads
  have HX := Aside0.mk hrx; have HF := Aside0.mk hf
  rw [tree_length] at hcx ⊢
  clear hm hf hrx
  go_wp2_with fail
  refine (IH.out (N - k) (by omega) (ls.drop k) _ _ w3 (by rw [List.length_drop, HN.out]) (HRS.out w3 HF.out).2 (by omega) (by omega) (fun l h => HL.out l (List.mem_of_mem_drop h)) (HT.out.fr HF.out id)).mono ?_
  rintro e w4 ⟨v, rfl, hm, hf⟩
  obtain ⟨Y, cy, rfl, hcy, hry⟩ := hm.reads
  have HY := Aside0.mk hry; have HX2 := Aside0.mk (C_fr HX.out hf); have HF2 := Aside0.mk (HF.out.then_ hf)
  rw [tree_length] at hcy ⊢
  clear hm hf hry HX HF
  go_wp2_with fail
  refine (joined_callsN 1 1 rfl (treeL (ls.take k)) (treeL (ls.drop k)) _ _ 32 32 cx cy (tree_length _) (tree_length _) w4 HX2.out HY.out (by rw [tree_length, tree_length]; decide)).mono ?_
  rintro e w5 ⟨v, rfl, hm, hf⟩
  obtain ⟨Z, cz, rfl, hcz, hrz⟩ := hm.reads
  have HZ := Aside0.mk hrz; have HF3 := Aside0.mk (HF2.out.then_ hf)
  have HJL : Aside0 ((1 :: (treeL (ls.take k) ++ treeL (ls.drop k)) : List UInt8).length ≤ 140737488352256) := ⟨by rw [List.length_cons, List.length_append, tree_length, tree_length]; decide⟩
  clear hm hf hrz HX2 HY HF2
  generalize hj : (1 :: (treeL (ls.take k) ++ treeL (ls.drop k)) : List UInt8) = j at *
  clear hj
  go_wp2_with fail
  refine (refSum_callsN j _ rfl Z cz w5 HZ.out HJL.out (HT.out.fr HF3.out id)).mono ?_
  rintro e w6 ⟨v, rfl, hm, hf⟩
  go_wp2_with fail
  go_ret
  exact ⟨v, rfl, by rw [HTM.out]; exact hm.lower HF3.out.size, HF3.out.then_ hf⟩
/-- What Root answers. -/
def rootB (ls : LL) : List UInt8 := if ls.length ≤ 65536 then treeL ls else []
def rootE (ls : LL) : Int := if ls.length ≤ 65536 then 0 else 2
theorem refRoot_calls (ls : LL) (A : Option Addr) (c : Nat) (w : World) (hr : Rbs w A ls) (hc : ls.length ≤ c) (hl : ∀ l ∈ ls, l.length ≤ 140737488351232) (hn : ls.length ≤ 5864062014634) (hK : KeysAt w) :
    Calls Tryd.prog 42 #[.slice A ls.length c] w fun e w' => ∃ v, e = .returned (.tuple #[v, .int .i64 (rootE ls)]) ∧ Mine w' w.heap.size v (bi (rootB ls)) ∧ Fr No w w' := by
  have HR := Aside0.mk hr; have HL := Aside0.mk hl; have HT := Aside0.mk hK
  clear hr hl hK
  go_enter Tryd.func42, Tryd.ntmps42
  by_cases h : ls.length ≤ 65536
  · have HE : Aside0 (rootE ls = 0 ∧ rootB ls = treeL ls) := ⟨by unfold rootE rootB; rw [if_pos h, if_pos h]; exact ⟨rfl, rfl⟩⟩
    go_wp2_with fail
    refine (over_calls ls.length ls A c w rfl HR.out hc (by omega) HL.out HT.out).mono ?_
    rintro e w2 ⟨v, rfl, hm, hf⟩
    have HM := Aside0.mk hm; have HF := Aside0.mk hf
    clear hm hf
    go_wp2_with fail
    go_ret2
    exact ⟨v, by rw [HE.out.1]; rfl, by rw [HE.out.2]; exact HM.out, HF.out⟩
  · have HE : Aside0 (rootE ls = 2 ∧ rootB ls = []) := ⟨by unfold rootE rootB; rw [if_neg h, if_neg h]; exact ⟨rfl, rfl⟩⟩
    go_wp2_with fail
    go_ret2
    exact ⟨.slice none 0 0, by rw [HE.out.1]; rfl, by rw [HE.out.2]; exact Mine.nil _ _, Fr.refl _ _⟩
set_option maxHeartbeats 4000000 in
theorem steps_calls (N : Nat) : ∀ (a : Nat) (w : World), a ≤ 140737488355328 → N ≤ 140737488355328 →
    Calls Tryd.prog 46 #[.int .i64 (a : Int), .int .i64 (N : Int)] w fun e w' => e = .returned (.int .i64 ((stepsN a N : Nat) : Int)) ∧ w = w' := by
  induction N using Nat.strongRecOn with
  | _ N ih =>
  intro a w ha hn
  have IH := Aside0.mk ih
  clear ih
  go_enter Tryd.func46, Tryd.ntmps46
  by_cases h2 : N < 2
  · have HE := Aside0.mk (steps_few a N h2)
    go_wp2_with fail
    go_ret
    exact ⟨by rw [HE.out]; rfl, rfl⟩
  have h2i : ¬ (N : Int) < 2 := by omega
  go_wp2_with fail
  refine (cut_calls N (by omega) hn w).mono ?_
  rintro e w2 ⟨rfl, rfl⟩
  have hk1 := cut_pos N
  have hk2 := cut_lt (n := N) (by omega)
  have HS1 := Aside0.mk (steps_left a N (by omega))
  have HS2 := Aside0.mk (steps_right a N (by omega))
  have hb1 := steps_lt (cutN N) a (by omega)
  have hb2 := steps_lt (N - cutN N) (a - cutN N) (by omega)
  generalize cutN N = k at *
  by_cases hlt : a < k
  · go_wp2_with fail
    refine (IH.out k hk2 a w ha (by omega)).mono ?_
    rintro e w2 ⟨rfl, rfl⟩
    have HSS := Aside0.mk (HS1.out hlt)
    generalize stepsN a k = s at *
    clear HS1 HS2
    go_wp2_with fail
    go_ret
    exact ⟨by rw [HSS.out]; simp, rfl⟩
  · have e1 : (a : Int) - (k : Int) = ((a - k : Nat) : Int) := by omega
    have e2 : (N : Int) - (k : Int) = ((N - k : Nat) : Int) := by omega
    have HSS := Aside0.mk (HS2.out hlt)
    generalize hp : a - k = p at *
    generalize hq : N - k = q at *
    have HPQ : Aside0 (p ≤ 140737488355328 ∧ q < N ∧ q ≤ 140737488355328) := ⟨by omega⟩
    clear hp hq
    go_wp2_with fail
    refine (IH.out q HPQ.out.2.1 p w HPQ.out.1 HPQ.out.2.2).mono ?_
    rintro e w2 ⟨rfl, rfl⟩
    generalize stepsN p q = s at *
    have hb3 : s ≤ 140737488355328 := by have := HPQ.out; omega
    clear HS1 HS2 e1 e2
    go_wp2_with fail
    go_ret
    exact ⟨by rw [HSS.out]; simp, rfl⟩
end Go.Proofs.YtbaeddppihjgfaaDoor.Sg
