/- The walk of the law DigestPieces. -/
import Derived.Test.YtbaeddppihjgfaaDoorHead
import Derived.Test.YtbaeddppihjgfaaDoorRoom
namespace Go.Proofs.YtbaeddppihjgfaaDoor.Sg
open Go Go.RowKit Go.Proofs.YtbaeddppihjgfaaDoorW.PrintWords
set_option linter.unusedVariables false
theorem C_int {w : World} {A : Option Addr} {xs : List Int} (h : Kd.C (Kd.int .i64) w A xs.length xs) (i : Nat) (hi : i < xs.length) : ∃ ad, A = some ad ∧ w.cell? (ad.add i) = some (.int .i64 (rd xs i)) := by
  obtain ⟨ad, e, hc⟩ := Kd.at_int h (i : Int) (by omega) (by omega)
  exact ⟨ad, e, by simpa using hc⟩
theorem Ci_fr {w w' : World} {A : Option Addr} {n : Nat} {xs : List Int} (h : Kd.C (Kd.int .i64) w A n xs) (hf : Fr No w w') : Kd.C (Kd.int .i64) w' A n xs := Kd.C_below h hf.below
theorem add_callsN (w : World) (H : Nat) (l : List UInt8) (rv : Value) (hH : HashOf w H l rv) (b : List UInt8) (n : Nat) (hn : b.length = n) (A : Option Addr) (c : Nat) (hbc : n ≤ c)
    (hb : ∀ w', Fr (fun k => k = H ∨ rv.ownBlock = some k) w w' → Rb w' A b) (hlen : l.length + b.length ≤ 140737488353280) (hK : KAt w) (hKH : H ≠ 3) (hKr : rv.ownBlock ≠ some 3) :
    Calls Tryd.prog 28 #[.pointer (some ⟨H, 0, none⟩), .slice A n c] w fun e w' => ∃ rv', e = .returned (.tuple #[]) ∧ HashOf w' H (l ++ b) rv' ∧ (∀ k, rv'.ownBlock = some k → rv.ownBlock = some k ∨ w.heap.size ≤ k) ∧ Fr (fun k => k = H ∨ rv.ownBlock = some k) w w' := by
  subst hn
  exact add_calls w H l rv hH b A c hbc hb hlen hK hKH hKr
theorem digest_callsN (b : List UInt8) (n : Nat) (hn : b.length = n) (A : Option Addr) (c : Nat) (w : World) (hbc : n ≤ c) (hr : Rb w A b) (hl : b.length ≤ 140737488352256) (hK : KAt w) (hF : FirstAt w) :
    Calls Tryd.prog 22 #[.slice A n c] w fun e w' => ∃ v, e = .returned v ∧ Mine w' w.heap.size v (bi (sha b)) ∧ Fr No w w' := by
  subst hn
  exact digestX_calls b A c w hbc hr hl hK hF
/-- A Hash whose memory was made when there were B0 blocks, or later. -/
structure HashNew (B0 : Nat) (wr : World) (H : Nat) (l : List UInt8) : Prop where
  out : ∃ rv, HashOf wr H l rv ∧ B0 ≤ H ∧ (∀ k, rv.ownBlock = some k → B0 ≤ k)
theorem HashNew.le {B0 H : Nat} {wr : World} {l : List UInt8} (h : HashNew B0 wr H l) : B0 ≤ wr.heap.size := by
  obtain ⟨rv, h1, h2, _⟩ := h.out
  have := h1.blk.lt
  omega
theorem HashNew.fr {B0 H : Nat} {wr w' : World} {l : List UInt8} {S : Nat → Prop} (h : HashNew B0 wr H l) (hf : Fr S wr w') (hS : ∀ k, S k → wr.heap.size ≤ k) : HashNew B0 w' H l := by
  obtain ⟨rv, h1, h2, h3⟩ := h.out
  exact ⟨rv, h1.fr hf (fun k => by have := hS _ k; have := h1.blk.lt; omega) (fun k hk hs => by have := hS _ hs; have := (h1.rest.base k hk).2; omega), h2, h3⟩
theorem HashNew.lower {B0 B1 H : Nat} {wr : World} {l : List UInt8} (h : HashNew B0 wr H l) (hb : B1 ≤ B0) : HashNew B1 wr H l := by
  obtain ⟨rv, h1, h2, h3⟩ := h.out
  exact ⟨rv, h1, by omega, fun k hk => by have := h3 k hk; omega⟩
theorem newB_calls (w : World) (hF : FirstAt w) :
    Calls Tryd.prog 26 #[] w fun e w' => ∃ H, e = .returned (.pointer (some ⟨H, 0, none⟩)) ∧ HashNew w.heap.size w' H [] ∧ Fr No w w' :=
  (new_calls w hF).mono fun e w' ⟨he, hh, hf⟩ => ⟨_, he, ⟨_, hh, Nat.le_refl _, fun k hk => by simp [Value.ownBlock] at hk⟩, hf⟩
theorem addB_calls (B0 : Nat) (wr : World) (H : Nat) (l : List UInt8) (hh : HashNew B0 wr H l) (b : List UInt8) (n : Nat) (hn : b.length = n) (A : Option Addr) (c : Nat) (hbc : n ≤ c)
    (hb : ∀ w', Fr (fun k => B0 ≤ k) wr w' → Rb w' A b) (hlen : l.length + b.length ≤ 140737488353280) (hK : KAt wr) (hg : 3 < B0) :
    Calls Tryd.prog 28 #[.pointer (some ⟨H, 0, none⟩), .slice A n c] wr fun e w' => e = .returned (.tuple #[]) ∧ HashNew B0 w' H (l ++ b) ∧ Fr (fun k => B0 ≤ k) wr w' := by
  obtain ⟨rv, h1, h2, h3⟩ := hh.out
  have hS : ∀ k, k = H ∨ rv.ownBlock = some k → B0 ≤ k := fun k hk => hk.elim (fun e => by omega) (h3 k)
  refine (add_callsN wr H l rv h1 b n hn A c hbc (fun w' hf => hb w' (hf.mono (fun k hk => .inl (hS k hk)))) hlen hK (by omega) (fun e => by have := h3 _ e; omega)).mono ?_
  rintro e w' ⟨rv', he, h4, h5, h6⟩
  exact ⟨he, ⟨rv', h4, h2, fun k hk => (h5 k hk).elim (h3 k) (fun h => by have := hh.le; omega)⟩, h6.mono (fun k hk => .inl (hS k hk))⟩
theorem addC_calls (B0 : Nat) (wl wr : World) (H : Nat) (l : List UInt8) (hh : HashNew B0 wl H l) (hf : Fr No wl wr) (b : List UInt8) (n : Nat) (hn : b.length = n) (A : Option Addr) (c : Nat) (hbc : n ≤ c)
    (hb : ∀ w', Fr (fun k => B0 ≤ k ∧ k < wl.heap.size) wr w' → Rb w' A b) (hlen : l.length + b.length ≤ 140737488353280) (hK : KAt wr) (hg : 3 < B0) :
    Calls Tryd.prog 28 #[.pointer (some ⟨H, 0, none⟩), .slice A n c] wr fun e w' => e = .returned (.tuple #[]) ∧ HashNew B0 w' H (l ++ b) ∧ Fr (fun k => B0 ≤ k ∧ k < wl.heap.size) wr w' := by
  obtain ⟨rv, h1, h2, h3⟩ := hh.out
  have hle := hh.le
  have hz := hf.size
  have hS : ∀ k, k = H ∨ rv.ownBlock = some k → B0 ≤ k ∧ k < wl.heap.size := fun k hk => hk.elim (fun e => by have := h1.blk.lt; omega) (fun e => ⟨h3 k e, (h1.rest.base k e).2⟩)
  refine (add_callsN wr H l rv (h1.fr hf id (fun _ _ => id)) b n hn A c hbc (fun w' hf => hb w' (hf.mono (fun k hk => .inl (hS k hk)))) hlen hK (by omega) (fun e => by have := h3 _ e; omega)).mono ?_
  rintro e w' ⟨rv', he, h4, h5, h6⟩
  exact ⟨he, ⟨rv', h4, h2, fun k hk => (h5 k hk).elim (h3 k) (fun h => by omega)⟩, h6.mono (fun k hk => .inl (hS k hk))⟩
theorem sumB_calls (B0 : Nat) (wr : World) (H : Nat) (l : List UInt8) (hh : HashNew B0 wr H l) (hK : KAt wr) (hl : l.length ≤ 140737488352256) :
    Calls Tryd.prog 29 #[.pointer (some ⟨H, 0, none⟩)] wr fun e w' => ∃ v, e = .returned v ∧ Mine w' wr.heap.size v (bi (sha l)) ∧ Fr No wr w' := by
  obtain ⟨rv, h1, _, _⟩ := hh.out
  exact sumX_calls wr H l rv h1 hK hl
theorem forkB_calls (B0 : Nat) (wr : World) (H : Nat) (l : List UInt8) (hh : HashNew B0 wr H l) :
    Calls Tryd.prog 27 #[.pointer (some ⟨H, 0, none⟩)] wr fun e w' => ∃ p, e = .returned (.pointer (some ⟨p, 0, none⟩)) ∧ HashNew wr.heap.size w' p l ∧ Fr No wr w' := by
  obtain ⟨rv, h1, _, _⟩ := hh.out
  refine (fork_calls wr H l rv h1).mono ?_
  rintro e w' ⟨p, rv', he, h4, h5, h6, h7⟩
  exact ⟨p, he, ⟨rv', h5, h4, h6⟩, h7⟩
set_option maxRecDepth 100000 in
set_option maxHeartbeats 4000000 in
theorem pieces_walk (w : World) (b : List UInt8) (A : Option Addr) (c : Nat) (hr : Rb w A b) (hc : b.length ≤ c) (hl : b.length ≤ 140737488351232)
    (xs : List Int) (A1 : Option Addr) (c1 : Nat) (hx : Kd.C (Kd.int .i64) w A1 xs.length xs) (hc1 : xs.length ≤ c1) (hl1 : xs.length ≤ 140737488351232) (hK : KAt w) (hF : FirstAt w) :
    Calls Tryd.prog 8 #[.slice A b.length c, .slice A1 xs.length c1] w fun e w' => e = .returned (.bool true) ∧ Fr No w w' := by
  have HR := Aside0.mk hr; have HX := Aside0.mk hx; have HK := Aside0.mk hK; have HF0 := Aside0.mk hF
  have HKL := Aside0.mk hK.lt
  clear hr hx hK hF
  go_enter Tryd.func8, Tryd.ntmps8
  go_wp2_with fail
  refine (newB_calls w HF0.out).mono ?_
  rintro e w1 ⟨H0, rfl, hh, hf⟩
  have HH1 : Aside0 (HashNew w.heap.size w1 H0 (b.take 0)) := ⟨hh⟩
  have HF1 := Aside0.mk hf
  clear hh hf
  go_wp2_with fail
  refine (head_calls w1 (HK.out.fr HF1.out id) (HF0.out.fr HF1.out id)).mono ?_
  rintro e w2 ⟨rfl, hf⟩
  have HH2 : Aside0 (HashNew w.heap.size w2 H0 (b.take 0)) := ⟨HH1.out.fr hf (fun _ h => h.elim)⟩
  have HF2 : Aside0 (Fr No w w2) := ⟨HF1.out.then_ hf⟩
  clear hf HH1 HF1
  go_wp2_with fail
  go_loopw [5, 6, 7] (fun p a i wr => ∃ H n t : Nat, p = .pointer (some ⟨H, 0, none⟩) ∧ a = .int .i64 n ∧ i = .int .i64 t ∧ n ≤ b.length ∧ t ≤ xs.length ∧ Aside0 (HashNew w.heap.size wr H (b.take n)) ∧ Aside0 (Fr No w wr)) (fun _ _ i _ => xs.length - (intOf i).toNat)
  case atStart => exact ⟨H0, 0, 0, rfl, rfl, rfl, by omega, by omega, HH2, HF2⟩
  case round =>
    clear HH2 HF2
    obtain ⟨H, n, t, rfl, rfl, rfl, hn, ht, HH, HF⟩ := hrel
    by_cases hgo : t < xs.length ∧ n < b.length
    · obtain ⟨htl, hnl⟩ := hgo
      obtain ⟨ad, hA, hc0⟩ := C_int HX.out t htl
      subst hA
      have hcell := HF.out.cell hc0 id
      have HC0 := Aside0.mk hc0
      clear hc0
      generalize rd xs t = x at hcell HC0
      go_upto_if 39 with fail
      clear hcell
      go_cut [8] (fun s8 wx => wx = wr ∧ ∃ y : Nat, y < 130 ∧ s8 = .int .i64 y)
      case first =>
        obtain ⟨q, hq⟩ : ∃ q : Int, x.tmod 130 = q := ⟨_, rfl⟩
        have hq1 : -130 < q := by subst hq; exact Int.lt_tmod_of_pos x (show (0 : Int) < 130 by omega)
        have hq2 : q < 130 := by subst hq; exact Int.tmod_lt_of_pos _ (by omega)
        rw [hq]
        clear hq
        by_cases h0 : q < 0
        · go_wp2_with fail
          go_meet
          exact ⟨rfl, (-q).toNat, by omega, by congr 1; omega⟩
        · go_wp2_with fail
          go_meet
          exact ⟨rfl, q.toNat, by omega, by congr 1; omega⟩
      case rest =>
        obtain ⟨hwc, y, hy, rfl⟩ := hcut
        rw [hwc]
        clear hwc
        go_upto_if 47 with fail
        go_cut [8] (fun s8 wx => wx = wr ∧ ∃ m : Nat, n + m ≤ b.length ∧ s8 = .int .i64 m)
        case first =>
          by_cases h0 : n + y ≤ b.length
          · go_wp2_with fail
            go_meet
            exact ⟨rfl, y, by omega, rfl⟩
          · go_wp2_with fail
            go_meet
            exact ⟨rfl, b.length - n, by omega, by congr 1; omega⟩
        case rest =>
          obtain ⟨hwc, m, hm, rfl⟩ := hcut
          rw [hwc]
          clear hwc
          go_upto_region 13 with fail
          go_cut [6] (fun s6 wx => s6 = .int .i64 n ∧ Aside0 (HashNew w.heap.size wx H (b.take (n + m))) ∧ Aside0 (Fr No w wx))
          case first =>
            have HRB : Aside0 (∀ w', Fr (fun k => w.heap.size ≤ k) wr w' → Rb w' (if c = n then A else A.map (·.add n)) ((b.drop n).take m)) := ⟨fun w' hf => by
              have h1 := Rb_drop (C_fr HR.out (HF.out.trans hf (fun k hk => .inr hk))) n (by omega) hc
              exact Rb_take h1 m (by rw [List.length_drop]; omega)⟩
            have HTK : Aside0 (b.take n ++ (b.drop n).take m = b.take (n + m)) := ⟨List.take_add.symm⟩
            have hdl : ((b.drop n).take m).length = m := by rw [List.length_take, List.length_drop]; omega
            have HDL := Aside0.mk hdl
            have HTL : Aside0 ((b.take n).length + ((b.drop n).take m).length ≤ 140737488353280) := ⟨by rw [hdl, List.length_take]; omega⟩
            clear hdl
            have hcq : ¬ c = n := by omega
            rw [if_neg hcq] at HRB
            go_wp2_with fail
            refine (addB_calls w.heap.size wr H (b.take n) HH.out ((b.drop n).take m) m HDL.out _ (c - n) (by omega) HRB.out HTL.out (HK.out.fr HF.out id) HKL.out).mono ?_
            rintro e w2 ⟨rfl, hh, hf⟩
            rw [HTK.out] at hh
            go_wp2_with fail
            go_meet
            exact ⟨rfl, ⟨hh⟩, ⟨HF.out.trans hf (fun k hk => .inr hk)⟩⟩
          case rest =>
            obtain ⟨rfl, HH2, HF2⟩ := hcut
            clear HH HF
            have HK2 := Aside0.mk (HK.out.fr HF2.out id)
            obtain ⟨q, hq⟩ : ∃ q : Nat, n + m = q := ⟨_, rfl⟩
            have hqi : (n : Int) + (m : Int) = (q : Int) := by omega
            rw [hq] at HH2 hm
            have HQL : Aside0 ((b.take q).length = q) := ⟨by rw [List.length_take]; omega⟩
            clear hnl hy hn
            go_wp2_with fail
            refine (sumB_calls w.heap.size wc H (b.take q) HH2.out HK2.out (by rw [HQL.out]; omega)).mono ?_
            rintro e w3 ⟨v, rfl, hm3, hf⟩
            obtain ⟨X, cx, rfl, hcx, hrx⟩ := hm3.reads
            have HX3 := Aside0.mk hrx
            have HH3 : Aside0 (HashNew w.heap.size w3 H (b.take q)) := ⟨HH2.out.fr hf (fun _ h => h.elim)⟩
            have HF3 : Aside0 (Fr No w w3) := ⟨HF2.out.then_ hf⟩
            clear hm3 hf hrx HH2 HF2 HK2 hcx
            go_wp2_with fail
            refine (digest_callsN (b.take q) q HQL.out A c w3 (by omega) (Rb_take (C_fr HR.out HF3.out) q hm) (by rw [HQL.out]; omega) (HK.out.fr HF3.out id) (HF0.out.fr HF3.out id)).mono ?_
            rintro e w4 ⟨v, rfl, hm4, hf⟩
            obtain ⟨Y, cy, rfl, hcy, hry⟩ := hm4.reads
            have HY4 := Aside0.mk hry
            have HX4 := Aside0.mk (C_fr HX3.out hf)
            have HH4 : Aside0 (HashNew w.heap.size w4 H (b.take q)) := ⟨HH3.out.fr hf (fun _ h => h.elim)⟩
            have HF4 : Aside0 (Fr No w w4) := ⟨HF3.out.then_ hf⟩
            have HD := Aside0.mk (sha_length (b.take q))
            clear hm4 hf hry HH3 HF3 HX3 hcy
            generalize sha (b.take q) = d at *
            go_wp2_with fail
            refine (same_calls d d _ _ _ _ _ HX4.out HY4.out).mono ?_
            rintro e w5 ⟨rfl, rfl⟩
            clear HX4 HY4
            have hd32 := HD.out
            go_wp2_with fail
            refine (forkB_calls w.heap.size w4 H (b.take q) HH4.out).mono ?_
            rintro e w5 ⟨p, rfl, hp, hf⟩
            clear hd32
            have HP := Aside0.mk hp; have HF5 := Aside0.mk hf
            have HF5w : Aside0 (Fr No w w5) := ⟨HF4.out.then_ hf⟩
            have HK4L : Aside0 (3 < w4.heap.size) := ⟨by have := HKL.out; have := HF4.out.size; omega⟩
            clear hp hf
            go_wp2_with fail
            have h123 : Aside0 (∀ w', Fr (fun k => w4.heap.size ≤ k ∧ k < w5.heap.size) (w5.alloc (.cells #[.int .u8 1, .int .u8 2, .int .u8 3] 5)) w' → Rb w' (some ⟨w5.heap.size, 0, none⟩) [1, 2, 3]) := ⟨fun w' hf => by
              have hb : Blk (w5.alloc (.cells #[.int .u8 1, .int .u8 2, .int .u8 3] 5)) w5.heap.size [1, 2, 3] := heap_alloc_new w5 _
              exact Blk.reads (xs := [1, 2, 3]) (ys := []) (hb.fr hf (by omega)) (by simp [maxLen])⟩
            have hfa : Fr No w5 (w5.alloc (.cells #[.int .u8 1, .int .u8 2, .int .u8 3] 5)) := (Fr.refl No w5).alloc _
            generalize w5.alloc _ = w6 at h123 hfa ⊢
            refine (addC_calls w4.heap.size w5 w6 p (b.take q) HP.out hfa [1, 2, 3] 3 rfl _ 3 (by decide) h123.out (by rw [HQL.out]; simp; omega) (HK.out.fr (HF5w.out.then_ hfa) id) HK4L.out).mono ?_
            rintro e w7 ⟨rfl, _, hf⟩
            have HF7a : Aside0 (Fr No w4 w7) := ⟨(HF5.out.then_ hfa).trans hf (fun k hk => .inr hk.1)⟩
            have HH7 : Aside0 (HashNew w.heap.size w7 H (b.take q)) := ⟨HH4.out.fr HF7a.out (fun _ h => h.elim)⟩
            have HF7 : Aside0 (Fr No w w7) := ⟨HF4.out.then_ HF7a.out⟩
            have hcell7 := HF7.out.cell HC0.out id
            clear hf hfa h123 HF7a HH4 HF4 HP HF5 HF5w HK4L
            by_cases hz3 : x.tmod 3 = 0
            · have hz3b : (x.tmod 3 == 0) = true := by rw [hz3]; rfl
              clear hz3
              go_wp2_with fail
              refine (forkB_calls w.heap.size w7 H (b.take q) HH7.out).mono ?_
              rintro e w8 ⟨p2, rfl, hp, hf⟩
              have HH8 : Aside0 (HashNew w.heap.size w8 p2 (b.take q)) := ⟨hp.lower HF7.out.size⟩
              have HF8 : Aside0 (Fr No w w8) := ⟨HF7.out.then_ hf⟩
              clear hp hf hcell7
              go_wp2_with fail
              exact ⟨⟨p2, q, t + 1, rfl, rfl, by go_num, hm, by omega, HH8, HF8⟩, by simp [intOf]; omega⟩
            · have hz3b : (x.tmod 3 == 0) = false := beq_eq_false_iff_ne.2 hz3
              clear hz3
              go_wp2_with fail
              exact ⟨⟨H, q, t + 1, rfl, rfl, by go_num, hm, by omega, HH7, HF7⟩, by simp [intOf]; omega⟩
    · by_cases htl : t < xs.length
      · obtain rfl : n = b.length := by omega
        go_upto_region 27 with fail
        go_cut [6] (fun s6 wx => s6 = .int .i64 (b.length : Nat) ∧ Aside0 (HashNew w.heap.size wx H b) ∧ Aside0 (Fr No w wx))
        case first =>
          have HRB : Aside0 (∀ w', Fr (fun k => w.heap.size ≤ k) wr w' → Rb w' (if c = b.length then A else A.map (·.add b.length)) (b.drop b.length)) := ⟨fun w' hf => Rb_drop (C_fr HR.out (HF.out.trans hf (fun k hk => .inr hk))) b.length (by omega) hc⟩
          have HTK : Aside0 (b.take b.length ++ b.drop b.length = b) := ⟨List.take_append_drop _ _⟩
          have HDL : Aside0 ((b.drop b.length).length = b.length - b.length) := ⟨List.length_drop⟩
          have HTL : Aside0 ((b.take b.length).length + (b.drop b.length).length ≤ 140737488353280) := ⟨by rw [List.length_take, List.length_drop]; omega⟩
          by_cases hcq : c = b.length
          · rw [if_pos hcq] at HRB
            subst hcq
            go_wp2_with fail
            refine (addB_calls w.heap.size wr H (b.take b.length) HH.out (b.drop b.length) _ ?hn _ _ ?hbc HRB.out HTL.out (HK.out.fr HF.out id) HKL.out).mono ?_
            case hn => first | exact HDL.out | (rw [HDL.out]; omega)
            case hbc => omega
            rintro e w2 ⟨rfl, hh, hf⟩
            rw [HTK.out] at hh
            go_wp2_with fail
            go_meet
            exact ⟨rfl, ⟨hh⟩, ⟨HF.out.trans hf (fun k hk => .inr hk)⟩⟩
          · rw [if_neg hcq] at HRB
            go_wp2_with fail
            refine (addB_calls w.heap.size wr H (b.take b.length) HH.out (b.drop b.length) _ ?hn _ _ ?hbc HRB.out HTL.out (HK.out.fr HF.out id) HKL.out).mono ?_
            case hn => first | exact HDL.out | (rw [HDL.out]; omega)
            case hbc => omega
            rintro e w2 ⟨rfl, hh, hf⟩
            rw [HTK.out] at hh
            go_wp2_with fail
            go_meet
            exact ⟨rfl, ⟨hh⟩, ⟨HF.out.trans hf (fun k hk => .inr hk)⟩⟩
        case rest =>
          obtain ⟨rfl, HH2, HF2⟩ := hcut
          go_wp2_with fail
          refine (sumB_calls w.heap.size wc H b HH2.out (HK.out.fr HF2.out id) (by omega)).mono ?_
          rintro e w3 ⟨v, rfl, hm3, hf⟩
          obtain ⟨X, cx, rfl, hcx, hrx⟩ := hm3.reads
          have HX3 := Aside0.mk hrx
          have HF3 : Aside0 (Fr No w w3) := ⟨HF2.out.then_ hf⟩
          clear hm3 hf hrx hcx
          go_wp2_with fail
          refine (digest_calls b A c w3 hc (C_fr HR.out HF3.out) hl (HK.out.fr HF3.out id) (HF0.out.fr HF3.out id)).mono ?_
          rintro e w4 ⟨v, rfl, hm4, hf⟩
          obtain ⟨Y, cy, rfl, hcy, hry⟩ := hm4.reads
          have HY4 := Aside0.mk hry
          have HX4 := Aside0.mk (C_fr HX3.out hf)
          have HF4 : Aside0 (Fr No w w4) := ⟨HF3.out.then_ hf⟩
          clear hm4 hf hry hcy
          generalize sha b = d at *
          go_wp2_with fail
          refine (same_calls d d _ _ _ _ _ HX4.out HY4.out).mono ?_
          rintro e w5 ⟨rfl, rfl⟩
          go_wp2_with fail
          go_ret
          exact ⟨by simp, HF4.out⟩
      · go_upto_region 27 with fail
        go_cut [6] (fun s6 wx => s6 = .int .i64 n ∧ Aside0 (HashNew w.heap.size wx H b) ∧ Aside0 (Fr No w wx))
        case first =>
          have HRB : Aside0 (∀ w', Fr (fun k => w.heap.size ≤ k) wr w' → Rb w' (if c = n then A else A.map (·.add n)) (b.drop n)) := ⟨fun w' hf => Rb_drop (C_fr HR.out (HF.out.trans hf (fun k hk => .inr hk))) n (by omega) hc⟩
          have HTK : Aside0 (b.take n ++ b.drop n = b) := ⟨List.take_append_drop _ _⟩
          have HDL : Aside0 ((b.drop n).length = b.length - n) := ⟨List.length_drop⟩
          have HTL : Aside0 ((b.take n).length + (b.drop n).length ≤ 140737488353280) := ⟨by rw [List.length_take, List.length_drop]; omega⟩
          by_cases hcq : c = n
          · rw [if_pos hcq] at HRB
            subst hcq
            go_wp2_with fail
            refine (addB_calls w.heap.size wr H (b.take c) HH.out (b.drop c) _ ?hn _ _ ?hbc HRB.out HTL.out (HK.out.fr HF.out id) HKL.out).mono ?_
            case hn => first | exact HDL.out | (rw [HDL.out]; omega)
            case hbc => omega
            rintro e w2 ⟨rfl, hh, hf⟩
            rw [HTK.out] at hh
            go_wp2_with fail
            go_meet
            exact ⟨rfl, ⟨hh⟩, ⟨HF.out.trans hf (fun k hk => .inr hk)⟩⟩
          · rw [if_neg hcq] at HRB
            go_wp2_with fail
            refine (addB_calls w.heap.size wr H (b.take n) HH.out (b.drop n) _ ?hn _ _ ?hbc HRB.out HTL.out (HK.out.fr HF.out id) HKL.out).mono ?_
            case hn => first | exact HDL.out | (rw [HDL.out]; omega)
            case hbc => omega
            rintro e w2 ⟨rfl, hh, hf⟩
            rw [HTK.out] at hh
            go_wp2_with fail
            go_meet
            exact ⟨rfl, ⟨hh⟩, ⟨HF.out.trans hf (fun k hk => .inr hk)⟩⟩
        case rest =>
          obtain ⟨rfl, HH2, HF2⟩ := hcut
          go_wp2_with fail
          refine (sumB_calls w.heap.size wc H b HH2.out (HK.out.fr HF2.out id) (by omega)).mono ?_
          rintro e w3 ⟨v, rfl, hm3, hf⟩
          obtain ⟨X, cx, rfl, hcx, hrx⟩ := hm3.reads
          have HX3 := Aside0.mk hrx
          have HF3 : Aside0 (Fr No w w3) := ⟨HF2.out.then_ hf⟩
          clear hm3 hf hrx hcx
          go_wp2_with fail
          refine (digest_calls b A c w3 hc (C_fr HR.out HF3.out) hl (HK.out.fr HF3.out id) (HF0.out.fr HF3.out id)).mono ?_
          rintro e w4 ⟨v, rfl, hm4, hf⟩
          obtain ⟨Y, cy, rfl, hcy, hry⟩ := hm4.reads
          have HY4 := Aside0.mk hry
          have HX4 := Aside0.mk (C_fr HX3.out hf)
          have HF4 : Aside0 (Fr No w w4) := ⟨HF3.out.then_ hf⟩
          clear hm4 hf hry hcy
          generalize sha b = d at *
          go_wp2_with fail
          refine (same_calls d d _ _ _ _ _ HX4.out HY4.out).mono ?_
          rintro e w5 ⟨rfl, rfl⟩
          go_wp2_with fail
          go_ret
          exact ⟨by simp, HF4.out⟩
end Go.Proofs.YtbaeddppihjgfaaDoor.Sg
