/- Hex of the program, for every list that comes in: the room is made once, so nothing grows. -/
import Derived.Laws.OwnMore
import Derived.Test.YtbaeddppihjgfaaTwoWayWalk
namespace Go.Proofs.Ytbaeddppihjgfaa.Sg
open Go Go.RowKit Go.Proofs.YtbaeddppihjgfaaW.PrintWords
set_option linter.unusedVariables false
/-- Two bytes appended where there is room. -/
theorem app_two_fits {P : Program} {o : Oper} {a : Act} {Q : Exit → Act → World → Prop} {S : Nat → Prop} {w0 W0 : World} {Kc : Act → World → Prop} {ops : Array Oper} (hw : Region.wanted o (yielded ops a.tmps) = true) (s x : Operand) (t : TypeId)
    (ho : o.op = .call { callee := .builtin .append, args := #[s, x], argTypes := #[t, t] }) (ht : P.underlying t = some (.slice 5))
    (hinfo : (P.info? 5).map (fun i => (i.zero, i.size, i.bytes)) = some (some (.int .u8 0), 1, 1))
    (g n cap : Nat) (xs : List Int) (y1 y2 : Int) (hn : xs.length = n) (hs : a.eval s = .slice (some ⟨g, 0, none⟩) n cap) (hx : a.eval x = .slice (some ⟨W0.heap.size, 0, none⟩) 2 2)
    (HO : Mine W0 w0.heap.size (.slice (some ⟨g, 0, none⟩) n cap) xs) (HF : Fr S w0 W0) (hroom : n + 2 ≤ cap)
    (h : ∀ w1, Mine w1 w0.heap.size (.slice (some ⟨g, 0, none⟩) (n + 2) cap) (xs ++ [y1, y2]) → Fr S w0 w1 → Kc (a.put o.dst (.slice (some ⟨g, 0, none⟩) (n + 2) cap)) w1) :
    if Region.wanted o (yielded ops a.tmps) = true then Oper.wp P o a (W0.alloc (.cells #[.int .u8 y1, .int .u8 y2] 5)) Kc Q else Kc (a.put o.dst undef) (W0.alloc (.cells #[.int .u8 y1, .int .u8 y2] 5)) := by
  subst hn
  obtain ⟨i0, hi, hzz⟩ := Option.map_eq_some_iff.1 hinfo
  simp only [Prod.mk.injEq] at hzz
  obtain ⟨hz0, hz1, hz2⟩ := hzz
  have own := Kd.own_of_R HO
  rw [if_pos hw]
  obtain ⟨w1, hr, hown, hg⟩ := run_append_fits (P := P) (w := W0.alloc (.cells #[.int .u8 y1, .int .u8 y2] 5)) w0.heap.size t o.type 5 i0 1 ht hi hz1 g xs.length cap _ (own.alloc _) ⟨W0.heap.size, 0, none⟩ 2 2 [.int .u8 y1, .int .u8 y2] rfl
    (World.news_of_block (cs := #[.int .u8 y1, .int .u8 y2]) (t := 5) (fr := (0, 0)) (heap_alloc_new W0 _)) (by simp [Value.oneCell']) hroom
  unfold Oper.wp execOp
  simp only [ho, resolve, invoke, builtin, Sem.run_bind, Sem.run_pure, Result.andThen_ok, List.map_toArray, List.map_cons, List.map_nil, hs, hx, hr]
  have hg2 : W0.grownBy w1 (some g) := World.grownBy.trans (World.grownBy_alloc W0 _ _) hg
  refine h w1 (Kd.R_of_own ?_ (fun _ _ => trivial)) (HF.grown hg2 (fun k hk => .inr (HO.base k hk).1))
  have e : encs (Value.int .u8) (xs ++ [y1, y2]) = encs (Value.int .u8) xs ++ [.int .u8 y1, .int .u8 y2] := by simp [encs]
  rw [e, List.length_append]
  exact hown
set_option maxRecDepth 100000 in
set_option maxHeartbeats 1000000 in
theorem hexBig_calls (l : List UInt8) (A : Option Addr) (c : Nat) (w : World) (hr : Rb w A l) (hl : l.length ≤ 140737488351232) :
    Calls Try.prog 20 #[.slice A l.length c] w fun e w' => e = .returned (.string ⟨(hexL l).toArray⟩) ∧ Fr No w w' := by
  have HR := Aside0.mk hr
  clear hr
  have hmk := make0 (P := Try.prog) 25 Try.underlying25 infoU8 (2 * l.length) (by omega)
  have ec : ((2 * l.length : Nat) : Int) = 2 * (l.length : Int) := by omega
  rw [ec] at hmk
  clear ec
  have HM := Aside0.mk (mine_made w (2 * l.length) w.heap.size (Nat.le_refl _) (by simp [maxLen]; omega))
  have HF0 : Aside0 (Fr No w (w.alloc (.cells (madeCells #[.int .u8 0] (2 * l.length)) 5))) := ⟨(Fr.refl No w).alloc _⟩
  go_enter Try.func20, Try.ntmps20
  go_wp2
  go_loopw [3, 12] (fun v i wr => ∃ k : Nat, k ≤ l.length ∧ i = .int .i64 k ∧ v = .slice (some ⟨w.heap.size, 0, none⟩) (2 * k) (2 * l.length) ∧ Aside0 (Mine wr w.heap.size v (bi (hexL (l.take k)))) ∧ Aside0 (Fr No w wr)) (fun _ i _ => l.length - (intOf i).toNat)
  case atStart => exact ⟨0, by omega, rfl, rfl, HM, HF0⟩
  case round =>
    clear HM HF0 hmk
    obtain ⟨k, hk, rfl, rfl, HV, HF⟩ := hrel
    by_cases hlt : k < l.length
    · obtain ⟨ad, hA, hcell⟩ := C_byte (C_fr HR.out HF.out) k hlt
      subst hA
      have HT := Aside0.mk (hexL_take l k hlt)
      have hlen : (bi (hexL (l.take k))).length = 2 * k := by rw [bi_length, hexL_length]; simp; omega
      have HL := Aside0.mk hlen; clear hlen
      have hb := l[k].toNat_lt
      have h16 := u8_div16 l[k]
      have h15 := u8_and15' l[k]
      obtain ⟨d1, hd1, hl1⟩ : ∃ d1, l[k].toNat / 16 = d1 ∧ d1 < 16 := ⟨_, rfl, by omega⟩
      obtain ⟨d2, hd2, hl2⟩ : ∃ d2, l[k].toNat % 16 = d2 ∧ d2 < 16 := ⟨_, rfl, by omega⟩
      rw [hd1] at h16
      rw [hd2] at h15
      rw [hd1, hd2] at HT
      clear hd1 hd2 hb
      have hix1 := fun w => hex_index8 d1 hl1 w
      have hix2 := fun w => hex_index8 d2 hl2 w
      go_wp2_with fail
      have HV1 : Aside0 (Mine wr.drew w.heap.size (.slice (some ⟨w.heap.size, 0, none⟩) (2 * k) (2 * l.length)) (bi (hexL (l.take k)))) := ⟨HV.out.fr (Fr.refl No wr).drew (fun _ _ => id)⟩
      have HF1 : Aside0 (Fr No w wr.drew) := ⟨HF.out.drew⟩
      go_region_held3 (fun w' => True) (trivial)
        ((refine app_two_fits (by rfl) _ _ 25 (by rfl) Try.underlying25 infoU8 w.heap.size (2 * k) (2 * l.length) (bi (hexL (l.take k))) ((hexOf d1).toNat : Int) ((hexOf d2).toNat : Int) HL.out (by rfl) (by rfl) HV1.out HF1.out (by omega) ?_; intro w1 hm hf))
      all_goals
        go_wp2
        exact ⟨⟨k + 1, by omega, by go_num, by rw [show 2 * (k + 1) = 2 * k + 2 by omega], ⟨by rw [HT.out, bi_append]; exact hm⟩, ⟨hf⟩⟩, by simp [intOf]; omega⟩
    · obtain rfl : k = l.length := by omega
      have hall : l.take l.length = l := List.take_length
      rw [hall] at HV
      clear hall
      obtain ⟨D, cd, hD, hcd, hrd⟩ := HV.out.reads
      have hcv := Kd.C_string (P := Try.prog) (c := cd) Try.underlying25 Try.underlying5 Try.underlying9 hrd
      injection hD with e1 e2 e3
      subst e1
      rw [hexL_length] at hcv
      rw [← e3] at hcv
      clear HV hrd hcd e2 e3
      go_wp2
      go_ret
      exact ⟨congrArg (fun z => Ending.returned (.string z)) (str_bi _), HF.out⟩
set_option maxRecDepth 100000 in
set_option maxHeartbeats 1000000 in
theorem unhexBig_calls (L : List UInt8) (w : World) (hl : L.length ≤ 281474976702464) :
    Calls Try.prog 21 #[.string ⟨L.toArray⟩] w (UnhexPost L w) := by
  have hsz : (⟨L.toArray⟩ : ByteArray).size = L.length := by simp [ByteArray.size]
  by_cases hodd : L.length % 2 = 1
  · have HO := Aside0.mk (unhex_odd L hodd)
    go_enter Try.func21, Try.ntmps21
    go_wp2
    go_ret2
    exact ⟨Fr.refl _ _, .inr ⟨HO.out, rfl⟩⟩
  · obtain ⟨n, hn⟩ : ∃ n, L.length = 2 * n := ⟨L.length / 2, by omega⟩
    have HN := Aside0.mk hn
    have hev : (L.length : Int) = 2 * (n : Int) := by omega
    clear hodd
    have hmk := make0 (P := Try.prog) 25 Try.underlying25 infoU8 n (by omega)
    have HM := Aside0.mk (mine_made w n w.heap.size (Nat.le_refl _) (by simp [maxLen]; omega))
    have HF0 : Aside0 (Fr No w (w.alloc (.cells (madeCells #[.int .u8 0] n) 5))) := ⟨(Fr.refl No w).alloc _⟩
    clear hn
    have hm2 : (2 * (n : Int)) % 2 = 0 := by omega
    have hd2 : (2 * (n : Int)) / 2 = (n : Int) := by omega
    have hb2 : ((2 * (n : Int)) % 2 != 0) = false := by rw [hm2]; rfl
    go_enter Try.func21, Try.ntmps21
    go_wp2
    go_loopw [4, 5] (fun v i wr => ∃ (k : Nat) (m : List UInt8), k ≤ n ∧ i = .int .i64 (2 * (k : Int)) ∧ Aside0 (m.length = k) ∧ Aside0 (unhexL (L.take (2 * k)) = some m) ∧ Aside0 (Mine wr w.heap.size v (bi m)) ∧ Aside0 (Fr No w wr)) (fun _ i _ => 2 * n - (intOf i).toNat)
    case atStart => exact ⟨0, [], by omega, rfl, ⟨rfl⟩, ⟨rfl⟩, HM, HF0⟩
    case round =>
      clear HM HF0 hmk
      obtain ⟨k, m, hk, rfl, HL, HU, HV, HF⟩ := hrel
      by_cases hlt : k < n
      · have hk2 : 2 * k + 1 < L.length := by have := HN.out; omega
        have hix1 := fun w => index_str L (2 * k) (by omega) w
        have hix2 := fun w => index_str L (2 * k + 1) hk2 w
        have e1 : ((2 * k : Nat) : Int) = 2 * (k : Int) := by omega
        have e2 : ((2 * k + 1 : Nat) : Int) = 2 * (k : Int) + 1 := by omega
        rw [e1] at hix1
        rw [e2] at hix2
        clear e1 e2
        have HGO := Aside0.mk (unhex_go k L m HU.out hk2)
        have HST := Aside0.mk (unhex_stop k L m HU.out hk2)
        generalize L[2 * k] = x at *
        generalize L[2 * k + 1] = y at *
        have hwr : IntKind.i64.wrap (2 * (k : Int) + 1) = 2 * (k : Int) + 1 := IntWalk.i64_in _ (by omega)
        go_wp2_with fail
        go_quiet ((go_at_call 31; refine (worth_calls _ _).mono ?_; rintro e w' ⟨rfl, rfl⟩; exact ⟨rfl, _, rfl⟩))
        have HF1 : Aside0 (Fr No w (wr.drewN nq)) := ⟨HF.out.drewN nq⟩
        have HV1 : Aside0 (Mine (wr.drewN nq) w.heap.size u4 (bi m)) := ⟨HV.out⟩
        cases h1 : worthN x with
        | none =>
          have HS := Aside0.mk (HST.out (.inl h1))
          have hq : decide (wv none < 0) = true := rfl
          clear h1
          go_wp2
          go_ret2
          exact ⟨HF1.out, .inr ⟨HS.out, rfl⟩⟩
        | some i =>
          have hi := worthN_lt h1
          have hi0 : decide ((i : Int) < 0) = false := decide_eq_false (by omega)
          have hwi := wv_some i
          cases h2 : worthN y with
          | none =>
            have HS := Aside0.mk (HST.out (.inr h2))
            clear h1 h2
            have hq : decide (wv none < 0) = true := rfl
            go_wp2
            go_ret2
            exact ⟨HF1.out, .inr ⟨HS.out, rfl⟩⟩
          | some j =>
            have hj := worthN_lt h2
            have HG := Aside0.mk (HGO.out i j h1 h2)
            have hwj := wv_some j
            have hj0 : decide ((j : Int) < 0) = false := decide_eq_false (by omega)
            clear h1 h2
            have hor := or16 i j hi hj
            go_wp2_with (at_builtin; refine app_byte rfl (.tmp 37) (.tmp 43) 25 rfl Try.underlying25 infoU8 _ (bi m) _ rfl rfl HV1.out HF1.out (by rw [bi_length, HL.out]; omega) ?_)
            intro v1 w1 hm hf hg
            have HV2 : Aside0 (Mine w1 w.heap.size v1 (bi (m ++ two i j []))) := ⟨by rw [bi_append]; exact hm⟩
            have HF2 := Aside0.mk hf
            clear hm hf hg hor hwi hwj hi0 hj0
            go_wp2
            exact ⟨⟨k + 1, m ++ two i j [], by omega, by congr 1, ⟨by rw [List.length_append, HL.out]; rfl⟩, HG, HV2, HF2⟩, by simp [intOf]; omega⟩
      · obtain rfl : k = n := by omega
        have HT : Aside0 (unhexL L = some m) := ⟨by have := HU.out; rwa [List.take_of_length_le (by have := HN.out; omega)] at this⟩
        go_wp2
        go_ret2
        exact ⟨HF.out, .inl ⟨_, m, HT.out, rfl, HV.out⟩⟩
theorem unhexBig_some (L m : List UInt8) (w : World) (hl : L.length ≤ 281474976702464) (h : unhexL L = some m) :
    Calls Try.prog 21 #[.string ⟨L.toArray⟩] w fun e w' => ∃ v, e = .returned (.tuple #[v, .int .i64 0]) ∧ Mine w' w.heap.size v (bi m) ∧ Fr No w w' :=
  (unhexBig_calls L w hl).mono fun e w' ⟨hf, hh⟩ => by
    rcases hh with ⟨v, m', h1, h2, h3⟩ | ⟨h1, _⟩
    · rw [h] at h1; cases h1; exact ⟨v, h2, h3, hf⟩
    · rw [h] at h1; cases h1
theorem unhexBig_none (L : List UInt8) (w : World) (hl : L.length ≤ 281474976702464) (h : unhexL L = none) :
    Calls Try.prog 21 #[.string ⟨L.toArray⟩] w fun e w' => e = .returned (.tuple #[.slice none 0 0, .int .i64 31]) ∧ Fr No w w' :=
  (unhexBig_calls L w hl).mono fun e w' ⟨hf, hh⟩ => by
    rcases hh with ⟨v, m', h1, h2, h3⟩ | ⟨_, h2⟩
    · rw [h] at h1; cases h1
    · exact ⟨h2, hf⟩
set_option maxRecDepth 100000 in
set_option maxHeartbeats 2000000 in
theorem twoWayBig_walk (w : World) (b : List UInt8) (A : Option Addr) (c : Nat) (hr : Rb w A b) (hc : b.length ≤ c) (hl : b.length ≤ 140737488351232) (S : List UInt8) (hs : S.length ≤ 140737488351232) :
    Calls Try.prog 9 #[.slice A b.length c, .string ⟨S.toArray⟩] w fun e w' => e = .returned (.bool true) ∧ Fr No w w' := by
  have HR := Aside0.mk hr
  clear hr
  have hsz : (⟨(hexL b).toArray⟩ : ByteArray).size = 2 * b.length := by simp [ByteArray.size, hexL_length]
  have hlh : (hexL b).length ≤ 281474976702464 := by rw [hexL_length]; omega
  have hne : ((2 * (b.length : Int)) != (2 * (b.length : Int))) = false := bne_self_eq_false _
  go_enter Try.func9, Try.ntmps9
  go_wp2_with fail
  refine (hexBig_calls b A c _ HR.out hl).mono ?_
  rintro e w1 ⟨rfl, hf1⟩
  have HF1 := Aside0.mk hf1; clear hf1
  go_wp2_with fail
  refine (unhexBig_some (hexL b) b _ hlh (unhex_hex b)).mono ?_
  rintro e w2 ⟨v, rfl, hm, hf⟩
  obtain ⟨X, cx, rfl, hcx, hrx⟩ := hm.reads
  have HX := Aside0.mk hrx
  have HF2 : Aside0 (Fr No w w2) := ⟨HF1.out.then_ hf⟩
  have HR2 : Aside0 (Rb w2 A b) := ⟨C_fr HR.out HF2.out⟩
  clear hm hf hrx HF1
  have hbb : decide (b = b) = true := decide_eq_true rfl
  go_wp2_with fail
  refine (num_calls _ _).mono ?_
  rintro e w3 ⟨rfl, rfl⟩
  go_wp2_with fail
  refine (same_calls b b _ _ _ _ _ HX.out HR2.out).mono ?_
  rintro e w3 ⟨rfl, rfl⟩
  go_wp2_with fail
  cases hu : unhexL S with
  | none =>
    refine (unhexBig_none S _ (by omega) hu).mono ?_
    rintro e w3 ⟨rfl, hf⟩
    have HF3 : Aside0 (Fr No w w3) := ⟨HF2.out.then_ hf⟩
    clear hf hu
    go_wp2_with fail
    refine (num_calls _ _).mono ?_
    rintro e w4 ⟨rfl, rfl⟩
    go_wp2_with fail
    have H1 : Aside0 (Rb (w3.alloc (.cells #[.int .u8 171] 5)) (some ⟨w3.heap.size, 0, none⟩) [171]) := ⟨lit_reads w3 [171] (by simp)⟩
    refine (hexBig_calls [171] _ _ _ H1.out (by simp)).mono ?_
    rintro e w4 ⟨rfl, hf⟩
    have HF4 : Aside0 (Fr No w w4) := ⟨(HF3.out.alloc _).then_ hf⟩
    clear hf
    have hab : ((⟨(hexL [171]).toArray⟩ : ByteArray).toList == (⟨#[97, 98]⟩ : ByteArray).toList) = true := by decide +kernel
    go_wp2_with fail
    refine (num_calls _ _).mono ?_
    rintro e w5 ⟨rfl, rfl⟩
    go_wp2
    go_ret
    exact ⟨rfl, HF4.out⟩
  | some m =>
    refine (unhexBig_some S m _ (by omega) hu).mono ?_
    rintro e w3 ⟨v, rfl, hm, hf⟩
    obtain ⟨Y, cy, rfl, hcy, hry⟩ := hm.reads
    have hY := Aside0.mk hry
    have HF3 : Aside0 (Fr No w w3) := ⟨HF2.out.then_ hf⟩
    have he := hex_unhex S m hu
    have hml : m.length ≤ 140737488351232 := by have := congrArg List.length he; rw [hexL_length] at this; omega
    have hss : (hexL m == S) = true := beq_iff_eq.2 he
    clear hm hf hry hu he
    go_wp2_with fail
    refine (num_calls _ _).mono ?_
    rintro e w4 ⟨rfl, rfl⟩
    go_wp2_with fail
    refine (hexBig_calls m _ _ _ hY.out hml).mono ?_
    rintro e w4 ⟨rfl, hf⟩
    have HF4 : Aside0 (Fr No w w4) := ⟨HF3.out.then_ hf⟩
    clear hf
    go_wp2
    go_ret
    exact ⟨rfl, HF4.out⟩
end Go.Proofs.Ytbaeddppihjgfaa.Sg
