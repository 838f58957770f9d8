/- What is hashed on the way up from a leaf: the plain law, and the walk of ups. -/
import Derived.Test.YtbaeddppihjgfaaDoorOpensWalk
namespace Go.Proofs.YtbaeddppihjgfaaDoor.Sg
open Go Go.RowKit Go.Proofs.YtbaeddppihjgfaaDoorW.PrintWords
set_option linter.unusedVariables false
/-- What is hashed one step up. -/
def preUp (x : List UInt8) (b : Bool) (p : List UInt8) : List UInt8 := if b then 1 :: (p ++ sha x) else 1 :: (sha x ++ p)
def upsZ (x : List UInt8) : List (Bool × List UInt8) → LL
  | [] => [x]
  | z :: zs => x :: upsZ (preUp x z.1 z.2) zs
def topZ (x : List UInt8) : List (Bool × List UInt8) → List UInt8
  | [] => x
  | z :: zs => topZ (preUp x z.1 z.2) zs
theorem upsZ_ne (x : List UInt8) (zs : List (Bool × List UInt8)) : 0 < (upsZ x zs).length := by cases zs <;> simp [upsZ]
theorem upsZ_length (x : List UInt8) (zs : List (Bool × List UInt8)) : (upsZ x zs).length = zs.length + 1 := by
  induction zs generalizing x with
  | nil => rfl
  | cons z zs ih => simp [upsZ, ih]
theorem sha_pre (x : List UInt8) (z : Bool × List UInt8) : sha (preUp x z.1 z.2) = stepUp (sha x) z := by
  unfold preUp stepUp
  split <;> rfl
theorem sha_top (x : List UInt8) (zs : List (Bool × List UInt8)) : sha (topZ x zs) = zs.foldl stepUp (sha x) := by
  induction zs generalizing x with
  | nil => rfl
  | cons z zs ih => rw [topZ, ih, sha_pre]; rfl
theorem topZ_snoc (x : List UInt8) (zs : List (Bool × List UInt8)) (z : Bool × List UInt8) : topZ x (zs ++ [z]) = preUp (topZ x zs) z.1 z.2 := by
  induction zs generalizing x with
  | nil => rfl
  | cons y zs ih => exact ih _
theorem upsZ_snoc (x : List UInt8) (zs : List (Bool × List UInt8)) (z : Bool × List UInt8) : upsZ x (zs ++ [z]) = upsZ x zs ++ [topZ x (zs ++ [z])] := by
  induction zs generalizing x with
  | nil => rfl
  | cons y zs ih => show x :: upsZ _ (zs ++ [z]) = x :: upsZ _ zs ++ [topZ _ (zs ++ [z])]; rw [ih]; rfl
theorem upsZ_last (x : List UInt8) (zs : List (Bool × List UInt8)) (i : Nat) (hi : i + 1 = (upsZ x zs).length) : (upsZ x zs)[i]'(by omega) = topZ x zs := by
  induction zs generalizing x i with
  | nil => obtain rfl : i = 0 := by simpa [upsZ] using hi
           rfl
  | cons z zs ih =>
    have h : (upsZ x (z :: zs)).length = (upsZ (preUp x z.1 z.2) zs).length + 1 := rfl
    have h2 := upsZ_ne (preUp x z.1 z.2) zs
    obtain ⟨j, rfl⟩ : ∃ j, i = j + 1 := ⟨i - 1, by omega⟩
    exact ih _ j (by omega)
/-- If no two unlike lists of the two ways have the same sum, and both come to one root: the leaves are the same. -/
theorem binds_law : ∀ (bs : List Bool) (ps qs : LL) (x y : List UInt8), ps.length = bs.length → qs.length = bs.length → (∀ p ∈ ps, p.length = 32) → (∀ p ∈ qs, p.length = 32) →
    (∀ j (h1 : j < (upsZ x (bs.zip ps)).length) (h2 : j < (upsZ y (bs.zip qs)).length), sha (upsZ x (bs.zip ps))[j] = sha (upsZ y (bs.zip qs))[j] → (upsZ x (bs.zip ps))[j] = (upsZ y (bs.zip qs))[j]) →
    (bs.zip ps).foldl stepUp (sha x) = (bs.zip qs).foldl stepUp (sha y) → x = y := by
  intro bs
  induction bs with
  | nil => intro ps qs x y _ _ _ _ hn he; exact hn 0 (upsZ_ne _ _) (upsZ_ne _ _) he
  | cons b bs ih =>
    intro ps qs x y h1 h2 h3 h4 hn he
    obtain ⟨p, ps, rfl⟩ : ∃ p t, ps = p :: t := by cases ps with
      | nil => simp at h1
      | cons p t => exact ⟨p, t, rfl⟩
    obtain ⟨q, qs, rfl⟩ : ∃ p t, qs = p :: t := by cases qs with
      | nil => simp at h2
      | cons p t => exact ⟨p, t, rfl⟩
    have hx := ih ps qs (preUp x b p) (preUp y b q) (by simpa using h1) (by simpa using h2) (fun r hr => h3 r (List.mem_cons_of_mem _ hr)) (fun r hr => h4 r (List.mem_cons_of_mem _ hr))
      (fun j k1 k2 hs => hn (j + 1) (by simpa [upsZ] using k1) (by simpa [upsZ] using k2) hs)
      (by rw [sha_pre x (b, p), sha_pre y (b, q)]; exact he)
    refine hn 0 (upsZ_ne _ _) (upsZ_ne _ _) ?_
    show sha x = sha y
    have e1 := h3 p List.mem_cons_self
    have e2 := h4 q List.mem_cons_self
    unfold preUp at hx
    cases b with
    | true =>
      simp only [if_true, List.cons.injEq, true_and] at hx
      exact (List.append_inj hx (by rw [e1, e2])).2
    | false =>
      simp only [Bool.false_eq_true, if_false, List.cons.injEq, true_and] at hx
      exact (List.append_inj hx (by rw [sha_length, sha_length])).1
def upsL (leaf : List UInt8) (a n : Nat) (ps : LL) : LL := upsZ (0 :: leaf) ((turnsW a n).zip ps)
def topL (leaf : List UInt8) (a n : Nat) (ps : LL) : List UInt8 := topZ (0 :: leaf) ((turnsW a n).zip ps)
theorem sha_topL (leaf : List UInt8) (a n : Nat) (ps : LL) : sha (topL leaf a n ps) = comeL leaf a n ps := sha_top _ _
theorem ups_few (leaf : List UInt8) (a n : Nat) (ps : LL) (h : n < 2) : upsL leaf a n ps = [0 :: leaf] := by unfold upsL; rw [turns_few a n h]; rfl
theorem ups_left (leaf : List UInt8) (a n : Nat) (ps : LL) (p : List UInt8) (h : 2 ≤ n) (ha : a < cutN n) (hl : ps.length = stepsN a (cutN n)) : upsL leaf a n (ps ++ [p]) = upsL leaf a (cutN n) ps ++ [1 :: (comeL leaf a (cutN n) ps ++ p)] := by
  unfold upsL
  rw [turns_left a n h ha, List.zip_append (by rw [hl]; rfl)]
  show upsZ _ (_ ++ [(false, p)]) = _
  rw [upsZ_snoc, topZ_snoc]
  show _ ++ [1 :: (sha (topL leaf a (cutN n) ps) ++ p)] = _
  rw [sha_topL]
theorem ups_right (leaf : List UInt8) (a n : Nat) (ps : LL) (p : List UInt8) (h : 2 ≤ n) (ha : ¬ a < cutN n) (hl : ps.length = stepsN (a - cutN n) (n - cutN n)) : upsL leaf a n (ps ++ [p]) = upsL leaf (a - cutN n) (n - cutN n) ps ++ [1 :: (p ++ comeL leaf (a - cutN n) (n - cutN n) ps)] := by
  unfold upsL
  rw [turns_right a n h ha, List.zip_append (by rw [hl]; rfl)]
  show upsZ _ (_ ++ [(true, p)]) = _
  rw [upsZ_snoc, topZ_snoc]
  show _ ++ [1 :: (p ++ sha (topL leaf (a - cutN n) (n - cutN n) ps))] = _
  rw [sha_topL]
theorem ups_length (leaf : List UInt8) (a n : Nat) (ps : LL) (h : ps.length = stepsN a n) : (upsL leaf a n ps).length = stepsN a n + 1 := by
  unfold upsL
  rw [upsZ_length, List.length_zip, h]
  show min (stepsN a n) (stepsN a n) + 1 = _
  omega
theorem ups_last (leaf : List UInt8) (a n : Nat) (ps : LL) (i : Nat) (hi : i + 1 = (upsL leaf a n ps).length) : (upsL leaf a n ps)[i]'(by omega) = topL leaf a n ps := upsZ_last _ _ i hi
/-- How long what is hashed may be. -/
theorem topZ_small (x : List UInt8) (zs : List (Bool × List UInt8)) (hx : x.length ≤ 140737488351300) (hz : ∀ z ∈ zs, z.2.length = 32) : (topZ x zs).length ≤ 140737488351300 := by
  induction zs generalizing x with
  | nil => exact hx
  | cons z zs ih =>
    refine ih _ ?_ (fun y hy => hz y (List.mem_cons_of_mem _ hy))
    have h := hz z List.mem_cons_self
    unfold preUp
    split <;> simp [h, sha_length]
theorem upsZ_small (x : List UInt8) (zs : List (Bool × List UInt8)) (hx : x.length ≤ 140737488351300) (hz : ∀ z ∈ zs, z.2.length = 32) : ∀ l ∈ upsZ x zs, l.length ≤ 140737488351300 := by
  induction zs generalizing x with
  | nil => intro l hl; rw [List.mem_singleton.1 hl]; exact hx
  | cons z zs ih =>
    intro l hl
    rcases List.mem_cons.1 hl with rfl | hl
    · exact hx
    · refine ih _ ?_ (fun y hy => hz y (List.mem_cons_of_mem _ hy)) l hl
      have h := hz z List.mem_cons_self
      unfold preUp
      split <;> simp [h, sha_length]
theorem zip_32 {bs : List Bool} {ps : LL} (h : ∀ p ∈ ps, p.length = 32) : ∀ z ∈ bs.zip ps, z.2.length = 32 := fun z hz => h _ (List.of_mem_zip hz).2
/-- [][]byte{v}, of a list of the call's own. -/
theorem own_list_one {w W : World} {v : Value} {l : List UInt8} (hm : Mine W w.heap.size v (bi l)) (hb : w.heap.size ≤ W.heap.size) : LOwn (W.alloc (.cells #[v] 22)) w.heap.size (.slice (some ⟨W.heap.size, 0, none⟩) 1 1) [l] := by
  refine ⟨fun _ => 0, fun k hk => ?_, [v], ?_, ?_⟩
  · have : W.heap.size = k := by simpa [Value.ownBlock] using hk
    omega
  · exact World.ownsRow_lit (base := w.heap.size) (e := 22) (size := 1) W #[v] 1 hb (by simp [maxLen]) rfl
  · refine (Reps.none _ _).snoc (p := (bi l, 0)) (c := [v]) ?_ rfl
    refine ⟨v, rfl, ?_⟩
    have h1 := Kd.R_below (Kd.R_bound hm) (below_alloc (Below.refl _ _) (.cells #[v] 22))
    refine Kd.R_mono h1 (fun k hk => ⟨⟨hk.2.1, fun e => ?_⟩, rfl⟩)
    have : k = W.heap.size := by simpa [Value.ownBlock] using e
    have := hk.2.2.1
    omega
set_option maxRecDepth 100000 in
set_option maxHeartbeats 4000000 in
theorem ups_calls (leaf : List UInt8) (hleaf : leaf.length ≤ 140737488351232) (N : Nat) : ∀ (ps : LL) (M : Nat) (A B : Option Addr) (ca cb a : Nat) (w : World), ps.length = M → M = stepsN a N → Rb w A leaf → Rbs w B ps → M ≤ cb → N ≤ 5864062014634 → a ≤ 140737488355328 → (∀ p ∈ ps, p.length = 32) → KAt w → FirstAt w →
    Calls Tryd.prog 47 #[.slice A leaf.length ca, .int .i64 (a : Int), .int .i64 (N : Int), .slice B M cb] w fun e w' => ∃ v, e = .returned v ∧ LOwn w' w.heap.size v (upsL leaf a N ps) ∧ Fr No w w' := by
  induction N using Nat.strongRecOn with
  | _ N ih =>
  intro ps M A B ca cb a w hM hMs hrl hr hc hn ha hl hK hF
  have HRL := Aside0.mk hrl; have HR := Aside0.mk hr; have HL := Aside0.mk hl; have HT := Aside0.mk (And.intro hK hF); have IH := Aside0.mk ih; have HM := Aside0.mk hM; have HMS := Aside0.mk hMs
  clear hrl hr hl hK hF ih hM hMs
  go_enter Tryd.func47, Tryd.ntmps47
  by_cases h2 : N < 2
  · have HE := Aside0.mk (ups_few leaf a N ps h2)
    have h2i : (N : Int) < 2 := by omega
    have HO := Aside0.mk (mine_one w 0)
    have HF0 : Aside0 (Fr No w (w.alloc (.cells #[.int .u8 0] 5))) := ⟨(Fr.refl No w).alloc _⟩
    have HRA := Aside0.mk (C_fr HRL.out HF0.out)
    have hll : ([0] : List Int).length + leaf.length ≤ 140737488355328 := by simp; omega
    have hlen : (0 :: leaf : List UInt8).length = leaf.length + 1 := rfl
    have HLE := Aside0.mk hlen
    clear hlen
    go_wp2_with (at_builtin; refine app_row (w0 := w) (S := No) rfl (.tmp 17) (.tmp 18) 22 rfl Tryd.underlying22 infoU8 _ [0] (bi leaf) _ _ _ rfl rfl HO.out HRA.out HF0.out hll ?_
                 intro v1 w1 hm1 hf1 hg1
                 have HM1 : Aside0 (Mine w1 w.heap.size v1 (bi (0 :: leaf))) := ⟨hm1⟩
                 have HF1 := Aside0.mk hf1
                 obtain ⟨D, cd, rfl, hcd, hrd⟩ := HM1.out.reads
                 rw [HLE.out] at HM1 ⊢
                 clear hm1 hf1 hg1 hrd hcd)
    go_ret
    exact ⟨_, rfl, by rw [HE.out]; exact own_list_one HM1.out HF1.out.size, HF1.out.alloc _⟩
  have h2i : ¬ (N : Int) < 2 := by omega
  go_wp2_with fail
  refine (cut_calls N (by omega) (by omega) w).mono ?_
  rintro e w2 ⟨rfl, rfl⟩
  have hk1 := cut_pos N
  have hk2 := cut_lt (n := N) (by omega)
  have HS1 := Aside0.mk (steps_left a N (by omega))
  have HS2 := Aside0.mk (steps_right a N (by omega))
  have HC1 := Aside0.mk (ups_left leaf a N (h := by omega))
  have HC2 := Aside0.mk (ups_right leaf a N (h := by omega))
  have HSB : Aside0 (stepsN a N < N) := ⟨steps_lt N a (by omega)⟩
  generalize cutN N = k at *
  obtain ⟨n, hn1⟩ : ∃ n, M = n + 1 := by
    by_cases hlt : a < k
    · exact ⟨stepsN a k, by rw [HMS.out, HS1.out hlt, Nat.add_comm]⟩
    · exact ⟨stepsN (a - k) (N - k), by rw [HMS.out, HS2.out hlt, Nat.add_comm]⟩
  subst hn1
  have hnN : n + 1 ≤ 5864062014634 := by have := HMS.out; have := HSB.out; omega
  have HPS : Aside0 (ps = ps.take n ++ [ps[n]'(by rw [HM.out]; omega)]) := ⟨by rw [← List.take_succ_eq_append_getElem (by rw [HM.out]; omega), List.take_of_length_le (by rw [HM.out]; omega)]⟩
  obtain ⟨ad, Ai, ci, hA, hcell, hci, hrb⟩ := HR.out.at_ n (by rw [HM.out]; omega)
  subst hA
  have hp32 := HL.out _ (List.getElem_mem (show n < ps.length by rw [HM.out]; omega))
  have HRB := Aside0.mk hrb
  have HCL := Aside0.mk hcell
  have HTL : Aside0 ((ps.take n).length = n) := ⟨by rw [List.length_take, HM.out]; omega⟩
  have HRT : Aside0 (∀ W, Fr No w W → Rbs W (some ad) (ps.take n)) := ⟨fun W hg => Rbs_take (HR.out.fr hg) n (by rw [HM.out]; omega)⟩
  have HLT : Aside0 (∀ p ∈ ps.take n, p.length = 32) := ⟨fun p hp => HL.out p (List.mem_of_mem_take hp)⟩
  have HPP : Aside0 (upsL leaf a N ps = upsL leaf a N (ps.take n ++ [ps[n]'(by rw [HM.out]; omega)])) := ⟨by rw [← HPS.out]⟩
  generalize ps[n]'(by rw [HM.out]; omega) = p at *
  generalize ps.take n = pt at *
  clear hcell hrb hci
  have hncb : n ≤ cb := by omega
  have HPN := Aside0.mk hp32
  by_cases hlt : a < k
  · have HSN : Aside0 (n = stepsN a k) := ⟨by have := HMS.out; rw [HS1.out hlt] at this; omega⟩
    have HCC : Aside0 (upsL leaf a N ps = upsL leaf a k pt ++ [1 :: (comeL leaf a k pt ++ p)]) := ⟨by rw [HPP.out, HC1.out pt p hlt (by rw [HTL.out]; exact HSN.out)]⟩
    have HTO := Aside0.mk (sha_topL leaf a k pt)
    have HTS : Aside0 ((topL leaf a k pt).length ≤ 140737488351300) := ⟨topZ_small _ _ (by simp; omega) (zip_32 HLT.out)⟩
    have HUL : Aside0 ((upsL leaf a k pt).length = n + 1) := ⟨by rw [ups_length _ _ _ _ (by rw [HTL.out]; exact HSN.out), ← HSN.out]⟩
    have HLA := Aside0.mk (ups_last leaf a k pt n (by rw [HUL.out]))
    have HCM := Aside0.mk (comeL_length leaf a k pt)
    clear HC1 HC2 HS1 HS2 HPP
    go_wp2_with fail
    refine (IH.out k hk2 pt n _ _ ca cb a w HTL.out HSN.out HRL.out (HRT.out w (Fr.refl _ _)) (by omega) (by omega) ha HLT.out HT.out.1 HT.out.2).mono ?_
    rintro e w3 ⟨lv, rfl, hm, hf⟩
    obtain ⟨U, cu, rfl, hcu, hru⟩ := hm.reads
    obtain ⟨ud, Ui, cui, hU, hcell, hcui, hrui⟩ := hru.at_ n (by rw [HUL.out]; omega)
    subst hU
    rw [HLA.out] at hcell hcui hrui
    rw [HUL.out] at hm ⊢
    have HLO := Aside0.mk hm; have HF := Aside0.mk hf; have HRU := Aside0.mk hrui
    clear HLA
    generalize topL leaf a k pt = top at *
    generalize comeL leaf a k pt = cm at *
    generalize upsL leaf a k pt = ul at *
    have hcell2 : (w3.alloc (.cells #[.int .u8 1] 5)).cell? (ud.add n) = some (.slice Ui top.length cui) := ((Fr.refl No w3).alloc _).cell hcell id
    have HF1 : Aside0 (Fr No w3 (w3.alloc (.cells #[.int .u8 1] 5))) := ⟨(Fr.refl No w3).alloc _⟩
    have HO := Aside0.mk (mine_one w3 1)
    clear hm hf hru hcu hcell hrui
    go_wp2_with fail
    generalize w3.alloc (.cells #[.int .u8 1] 5) = w4 at HF1 HO hcell2 ⊢
    have HF2 := Aside0.mk (HF.out.then_ HF1.out)
    refine (digest_callsN top _ rfl Ui cui w4 hcui (C_fr HRU.out HF1.out) (by have := HTS.out; omega) (HT.out.1.fr HF2.out id) (HT.out.2.fr HF2.out id)).mono ?_
    rintro e w5 ⟨v, rfl, hm, hf⟩
    rw [HTO.out] at hm
    obtain ⟨X, cx, rfl, hcx, hrx⟩ := hm.reads
    rw [HCM.out] at hcx hm ⊢
    have HX : Aside0 (Kd.C (Kd.int .u8) w5 X 32 (bi cm)) := ⟨by have := hrx; unfold Rb at this; rwa [HCM.out] at this⟩
    have HF5 := Aside0.mk (HF1.out.then_ hf)
    have HO5 := Aside0.mk (HO.out.fr hf (fun _ _ => id))
    have HFW : Aside0 (Fr No w w5) := ⟨HF.out.then_ HF5.out⟩
    clear hm hf hrx hcx hcell2 HO HF1 HF2 hcui
    have hll : ([1] : List Int).length + 32 ≤ 140737488355328 := by decide
    have hll2 : (bi (1 :: cm)).length + 32 ≤ 140737488355328 := by rw [bi_length, List.length_cons, HCM.out]; decide
    have HSZ := Aside0.mk HF.out.size
    have HULL : Aside0 (ul.length ≤ 5864062014634) := ⟨by rw [HUL.out]; omega⟩
    have HZ65 : Aside0 ((1 :: (cm ++ p) : List UInt8).length = 65) := ⟨by rw [List.length_cons, List.length_append, HCM.out, HPN.out]⟩
    go_wp2_with (first
      | (at_builtin; refine app_row (w0 := w3) (S := No) rfl (.tmp 36) (.tmp 43) 22 rfl Tryd.underlying22 infoU8 _ [1] (bi cm) _ _ _ rfl rfl HO5.out HX.out HF5.out hll ?_
         intro v1 w6 hm1 hf1 hg1
         have HM1 : Aside0 (Mine w6 w3.heap.size v1 (bi (1 :: cm))) := ⟨hm1⟩
         have HF6 := Aside0.mk hf1
         have hcl6 := (HF.out.then_ hf1).cell HCL.out id
         rw [HPN.out] at hcl6
         have HP6 : Aside0 (Kd.C (Kd.int .u8) w6 Ai 32 (bi p)) := ⟨by have := C_fr HRB.out (HF.out.then_ hf1); unfold Rb at this; rwa [HPN.out] at this⟩
         clear hm1 hf1 hg1)
      | (at_builtin; refine app_row (w0 := w3) (S := No) rfl (.tmp 46) (.tmp 50) 22 rfl Tryd.underlying22 infoU8 v1 (bi (1 :: cm)) (bi p) _ _ _ rfl rfl HM1.out HP6.out HF6.out hll2 ?_
         intro v2 w7 hm2 hf2 hg2
         have HM2 : Aside0 (Mine w7 w3.heap.size v2 (bi (1 :: (cm ++ p)))) := ⟨by rw [← bi_append] at hm2; exact hm2⟩
         have HF7 := Aside0.mk hf2
         have HFW7 := Aside0.mk (HF.out.then_ hf2)
         obtain ⟨Z, cz, rfl, hcz, hrz⟩ := HM2.out.reads
         rw [HZ65.out] at HM2 ⊢
         clear hm2 hf2 hg2 hcz hrz)
      | (at_builtin; refine app_list (w0 := w) (W0 := w3) rfl (.tmp 45) (.tmp 52) 34 rfl Tryd.underlying34 infoRow _ _ ul (1 :: (cm ++ p)) rfl rfl HLO.out HF7.out HM2.out HSZ.out HFW7.out HULL.out ?_
         intro v3 w8 hl3 hf3
         have HL3 := Aside0.mk hl3; have HF8 := Aside0.mk hf3
         clear hl3 hf3))
    go_ret
    exact ⟨v3, rfl, by rw [HCC.out]; exact HL3.out, HF8.out⟩
  · obtain ⟨q, hq⟩ : ∃ q, a - k = q := ⟨_, rfl⟩
    obtain ⟨r, hr⟩ : ∃ r, N - k = r := ⟨_, rfl⟩
    have hqi : (a : Int) - (k : Int) = (q : Int) := by omega
    have hri : (N : Int) - (k : Int) = (r : Int) := by omega
    have HSN : Aside0 (n = stepsN q r) := ⟨by have := HMS.out; rw [HS2.out hlt, hq, hr] at this; omega⟩
    have HCC : Aside0 (upsL leaf a N ps = upsL leaf q r pt ++ [1 :: (p ++ comeL leaf q r pt)]) := ⟨by rw [HPP.out, HC2.out pt p hlt (by rw [HTL.out, hq, hr]; exact HSN.out), hq, hr]⟩
    have hrN : r < N := by omega
    have hq2 : q ≤ 140737488355328 := by omega
    have HTO := Aside0.mk (sha_topL leaf q r pt)
    have HTS : Aside0 ((topL leaf q r pt).length ≤ 140737488351300) := ⟨topZ_small _ _ (by simp; omega) (zip_32 HLT.out)⟩
    have HUL : Aside0 ((upsL leaf q r pt).length = n + 1) := ⟨by rw [ups_length _ _ _ _ (by rw [HTL.out]; exact HSN.out), ← HSN.out]⟩
    have HLA := Aside0.mk (ups_last leaf q r pt n (by rw [HUL.out]))
    have HCM := Aside0.mk (comeL_length leaf q r pt)
    clear HC1 HC2 HS1 HS2 HPP hq hr
    go_wp2_with fail
    refine (IH.out r hrN pt n _ _ ca cb q w HTL.out HSN.out HRL.out (HRT.out w (Fr.refl _ _)) (by omega) (by omega) hq2 HLT.out HT.out.1 HT.out.2).mono ?_
    rintro e w3 ⟨lv, rfl, hm, hf⟩
    obtain ⟨U, cu, rfl, hcu, hru⟩ := hm.reads
    obtain ⟨ud, Ui, cui, hU, hcell, hcui, hrui⟩ := hru.at_ n (by rw [HUL.out]; omega)
    subst hU
    rw [HLA.out] at hcell hcui hrui
    rw [HUL.out] at hm ⊢
    have HLO := Aside0.mk hm; have HF := Aside0.mk hf; have HRU := Aside0.mk hrui; have HUC := Aside0.mk hcell
    clear HLA
    generalize topL leaf q r pt = top at *
    generalize comeL leaf q r pt = cm at *
    generalize upsL leaf q r pt = ul at *
    have HF1 : Aside0 (Fr No w3 (w3.alloc (.cells #[.int .u8 1] 5))) := ⟨(Fr.refl No w3).alloc _⟩
    have hcell2 : (w3.alloc (.cells #[.int .u8 1] 5)).cell? (ad.add n) = some (.slice Ai 32 ci) := by
      have h := (HF.out.then_ HF1.out).cell HCL.out id
      rw [HPN.out] at h
      exact h
    have HO := Aside0.mk (mine_one w3 1)
    have HP1 : Aside0 (Kd.C (Kd.int .u8) (w3.alloc (.cells #[.int .u8 1] 5)) Ai 32 (bi p)) := ⟨by have := C_fr HRB.out (HF.out.then_ HF1.out); unfold Rb at this; rwa [HPN.out] at this⟩
    have hll : ([1] : List Int).length + 32 ≤ 140737488355328 := by decide
    clear hm hf hru hcu hcell hrui
    go_wp2_with (at_builtin; refine app_row (w0 := w3) (S := No) rfl (.tmp 65) (.tmp 69) 22 rfl Tryd.underlying22 infoU8 _ [1] (bi p) _ _ _ rfl rfl HO.out HP1.out HF1.out hll ?_
                 intro v1 w5 hm1 hf1 hg1
                 have HM1 : Aside0 (Mine w5 w3.heap.size v1 (bi (1 :: p))) := ⟨hm1⟩
                 have HF5 := Aside0.mk hf1
                 have hcl5 := hf1.cell HUC.out id
                 have HF2 := Aside0.mk (HF.out.then_ hf1)
                 clear hm1 hf1 hg1)
    clear HO HP1 HF1 hcell2 hll
    refine (digest_callsN top _ rfl Ui cui w5 hcui (C_fr HRU.out HF5.out) (by have := HTS.out; omega) (HT.out.1.fr HF2.out id) (HT.out.2.fr HF2.out id)).mono ?_
    rintro e w6 ⟨v, rfl, hm, hf⟩
    rw [HTO.out] at hm
    obtain ⟨X, cx, rfl, hcx, hrx⟩ := hm.reads
    rw [HCM.out] at hcx hm ⊢
    have HX : Aside0 (Kd.C (Kd.int .u8) w6 X 32 (bi cm)) := ⟨by have := hrx; unfold Rb at this; rwa [HCM.out] at this⟩
    have HF6 := Aside0.mk (HF5.out.then_ hf)
    have HM6 := Aside0.mk (HM1.out.fr hf (fun _ _ => id))
    have hll2 : (bi (1 :: p)).length + 32 ≤ 140737488355328 := by rw [bi_length, List.length_cons, HPN.out]; decide
    clear hm hf hrx hcx hcl5 HM1 HF5 HF2 hcui
    have HSZ := Aside0.mk HF.out.size
    have HULL : Aside0 (ul.length ≤ 5864062014634) := ⟨by rw [HUL.out]; omega⟩
    have HZ65 : Aside0 ((1 :: (p ++ cm) : List UInt8).length = 65) := ⟨by rw [List.length_cons, List.length_append, HCM.out, HPN.out]⟩
    go_wp2_with (first
      | (at_builtin; refine app_row (w0 := w3) (S := No) rfl (.tmp 72) (.tmp 79) 22 rfl Tryd.underlying22 infoU8 v1 (bi (1 :: p)) (bi cm) _ _ _ rfl rfl HM6.out HX.out HF6.out hll2 ?_
         intro v2 w7 hm2 hf2 hg2
         have HM2 : Aside0 (Mine w7 w3.heap.size v2 (bi (1 :: (p ++ cm)))) := ⟨by rw [← bi_append] at hm2; exact hm2⟩
         have HF7 := Aside0.mk hf2
         have HFW7 := Aside0.mk (HF.out.then_ hf2)
         obtain ⟨Z, cz, rfl, hcz, hrz⟩ := HM2.out.reads
         rw [HZ65.out] at HM2 ⊢
         clear hm2 hf2 hg2 hcz hrz)
      | (at_builtin; refine app_list (w0 := w) (W0 := w3) rfl (.tmp 71) (.tmp 81) 34 rfl Tryd.underlying34 infoRow _ _ ul (1 :: (p ++ cm)) rfl rfl HLO.out HF7.out HM2.out HSZ.out HFW7.out HULL.out ?_
         intro v3 w8 hl3 hf3
         have HL3 := Aside0.mk hl3; have HF8 := Aside0.mk hf3
         clear hl3 hf3))
    go_ret
    exact ⟨v3, rfl, by rw [HCC.out]; exact HL3.out, HF8.out⟩
end Go.Proofs.YtbaeddppihjgfaaDoor.Sg
