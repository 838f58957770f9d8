/- The walks that tell a Hash's digest. -/
import Derived.Test.YtbaeddppihjgfaaDoorShaHash
namespace Go.Proofs.YtbaeddppihjgfaaDoor.Sg
open Go Go.RowKit Go.Proofs.YtbaeddppihjgfaaDoorW.PrintWords
set_option linter.unusedVariables false
attribute [local go_sem] u_signed u_xor u_and u_or u_add u_add' u_not u_div8 u_div1024 u_wrap u_wrap'
theorem zeros_lt (n : Nat) : zerosOf n < 64 := by unfold zerosOf; omega
theorem zeros_iff {n k q r : Nat} (hk : k ≤ zerosOf n) (hq : k + 1 = q) (hr : (n + q) % 64 = r) : r = 56 ↔ k = zerosOf n := by unfold zerosOf at *; omega
theorem mod_cast64 {n q r : Nat} (hr : (n + q) % 64 = r) : ((n : Int) + (q : Int)) % 64 = (r : Int) := by omega
theorem len_wrap {n q : Nat} (h : n ≤ 140737488352256) (hq : q ≤ 64) : wrap64 ((n : Int) + (q : Int)) = (n : Int) + (q : Int) := by unfold wrap64; omega
theorem len_wrap2 {n q : Nat} (h : n ≤ 140737488352256) (hq : q ≤ 64) : IntKind.i64.wrap ((n : Int) + (q : Int)) = (n : Int) + (q : Int) := by rw [IntKind.wrap_i64]; omega
theorem pad_len (k q : Nat) (hq : k + 1 = q) : ((128 : UInt8) :: List.replicate k 0).length = q := by simp; omega
theorem pad_next (k : Nat) : bi (128 :: List.replicate k 0) ++ [0] = bi (128 :: List.replicate (k + 1) 0) := by
  rw [List.replicate_succ' (n := k)]
  simp [bi]
theorem byte_len (n p N8 : Nat) (h : 8 * n = N8) : ((N8 : Nat) : Int) / 2 ^ (8 * p) % 256 = ((lenB n p).toNat : Int) := by
  subst h
  unfold lenB
  rw [UInt8.toNat_ofNat']
  simp
theorem len8_take (n j p : Nat) (hj : j < 8) (hp : 7 - j = p) : (len8 n).take (j + 1) = (len8 n).take j ++ [lenB n p] := by
  subst hp
  match j, hj with
  | 0, _ => rfl
  | 1, _ => rfl
  | 2, _ => rfl
  | 3, _ => rfl
  | 4, _ => rfl
  | 5, _ => rfl
  | 6, _ => rfl
  | 7, _ => rfl
theorem pad_step (n j p : Nat) (hj : j < 8) (hp : 7 - j = p) : bi (128 :: List.replicate (zerosOf n) 0 ++ (len8 n).take j) ++ [((lenB n p).toNat : Int)] = bi (128 :: List.replicate (zerosOf n) 0 ++ (len8 n).take (j + 1)) := by
  rw [len8_take n j p hj hp, ← List.append_assoc, bi_append _ [lenB n p]]
  rfl
theorem state8_at (q : S8) (k : Nat) (hk : k < 8) : (state8 q)[k]? = some (.int .u32 (un (q.list.getD k 0))) := by
  match k, hk with
  | 0, _ => rfl
  | 1, _ => rfl
  | 2, _ => rfl
  | 3, _ => rfl
  | 4, _ => rfl
  | 5, _ => rfl
  | 6, _ => rfl
  | 7, _ => rfl
theorem out_reads (w : World) (x : W) : Kd.C (Kd.int .u8) (w.alloc (.cells #[.int .u8 (un x / 16777216 % 256), .int .u8 (un x / 65536 % 256), .int .u8 (un x / 256 % 256), .int .u8 (un x % 256)] 5)) (some ⟨w.heap.size, 0, none⟩) 4 (bi (outW x)) := by
  have b0 : un x / (16777216 : Int) % (256 : Int) = ((UInt8.ofNat (x >>> 24).toNat).toNat : Int) := by rw [u_div16777216]; unfold un; rw [UInt8.toNat_ofNat']; omega
  have b1 : un x / (65536 : Int) % (256 : Int) = ((UInt8.ofNat (x >>> 16).toNat).toNat : Int) := by rw [u_div65536]; unfold un; rw [UInt8.toNat_ofNat']; omega
  have b2 : un x / (256 : Int) % (256 : Int) = ((UInt8.ofNat (x >>> 8).toNat).toNat : Int) := by rw [u_div256]; unfold un; rw [UInt8.toNat_ofNat']; omega
  have b3 : un x % (256 : Int) = ((UInt8.ofNat x.toNat).toNat : Int) := by unfold un; rw [UInt8.toNat_ofNat']; omega
  rw [b0, b1, b2, b3]
  exact lit_reads w (outW x) (by simp [outW])
theorem out_take (q : S8) (k : Nat) (hk : k < 8) (x : W) (hx : q.list.getD k 0 = x) : bi ((q.list.take k).flatMap outW) ++ bi (outW x) = bi ((q.list.take (k + 1)).flatMap outW) := by
  have hl : k < q.list.length := hk
  rw [List.take_succ_eq_append_getElem hl, List.flatMap_append, bi_append]
  congr 2
  rw [← hx, List.getD_eq_getElem?_getD, List.getElem?_eq_getElem hl]
  simp
theorem out_len (q : S8) (k : Nat) (hk : k ≤ 8) : (bi ((q.list.take k).flatMap outW)).length + 4 ≤ 140737488355328 := by
  rw [bi_length]
  have : ∀ l : List W, (l.flatMap outW).length = 4 * l.length := fun l => by
    induction l with
    | nil => rfl
    | cons a l ih => rw [List.flatMap_cons, List.length_append, ih]; simp [outW]; omega
  rw [this, List.length_take]
  omega
theorem make_run {P : Program} (t : TypeId) (ht : P.underlying t = some (.slice 5)) (hinfo : (P.info? 5).map (fun i => (i.zero, i.size, i.bytes)) = some (some (.int .u8 0), 1, 1)) (n m : Nat) (hn : n ≤ m) (hm : m ≤ 281474976710656) (W : World) :
    (Instr.makeSlice t (.int .i64 (n : Int)) (.int .i64 (m : Int))).run P W = .ok (.slice (some ⟨W.heap.size, 0, none⟩) n m) (W.alloc (.cells (madeCells #[.int .u8 0] m) 5)) := by
  obtain ⟨i, hi, hzz⟩ := Option.map_eq_some_iff.1 hinfo
  simp only [Prod.mk.injEq] at hzz
  obtain ⟨hz0, hz1, hz2⟩ := hzz
  have := run_make (P := P) W t 5 i (.int .u8 0) ht hi hz0 .i64 .i64 (n : Int) (m : Int) (by omega) (by omega) (by rw [hz2]; omega) (by omega)
  rw [hz1] at this
  simpa [Value.cells] using this
theorem made_nums (m : Nat) : madeCells #[.int .u8 0] m = (nums .u8 (List.replicate m 0)).toArray := by
  apply Array.ext
  · simp [size_madeCells, nums]
  · intro i h1 h2
    have hi : i < m := by simpa [nums] using h2
    simp [nums, madeCells, Nat.mod_one]
theorem made_blk (W : World) (m : Nat) : Blk (W.alloc (.cells (madeCells #[.int .u8 0] m) 5)) W.heap.size (List.replicate m 0) := by
  unfold Blk
  rw [heap_alloc_new, made_nums]
theorem made_blk1 (W : World) (m : Nat) (x : Int) : Blk (W.alloc (.cells ((madeCells #[.int .u8 0] m).setIfInBounds 0 (.int .u8 x)) 5)) W.heap.size ((List.replicate m 0).set 0 x) := by
  unfold Blk
  rw [heap_alloc_new, made_nums, List.setIfInBounds_toArray]
  unfold nums
  rw [List.map_set]
set_option maxRecDepth 100000 in
set_option maxHeartbeats 4000000 in
theorem sumX_calls (w : World) (H : Nat) (l : List UInt8) (rv : Value) (hH : HashOf w H l rv) (hK : KAt w) (hl : l.length ≤ 140737488352256) :
    Calls Tryd.prog 29 #[.pointer (some ⟨H, 0, none⟩)] w fun e w' => ∃ v, e = .returned v ∧ Mine w' w.heap.size v (bi (sha l)) ∧ Fr No w w' := by
  obtain ⟨RA, rc, rfl, hrc, hrd⟩ := hH.rest.reads
  have HH := Aside0.mk hH
  have HR := Aside0.mk hrd
  have HKA := Aside0.mk hK
  have HLE := Aside0.mk hl
  have hH' : w.heap[H]? = some (.cells (hashA (absorb S8.init l) l.length (.slice RA (tailOf l).length rc)) 86 (0, 0)) := hH.blk
  have HL : Aside0 (([] : List Int).length + (tailOf l).length ≤ 140737488355328) := ⟨by have := tailOf_lt l; simp only [List.length_nil]; omega⟩
  clear hrd hrc hH hK hl
  generalize hs : absorb S8.init l = s at hH'
  have c0 : w.cell? ⟨H, 0, none⟩ = some (.int .u32 (un s.a)) := by simp [World.cell?, hH', hashA]
  have c1 : w.cell? ⟨H, 1, none⟩ = some (.int .u32 (un s.b)) := by simp [World.cell?, hH', hashA]
  have c2 : w.cell? ⟨H, 2, none⟩ = some (.int .u32 (un s.c)) := by simp [World.cell?, hH', hashA]
  have c3 : w.cell? ⟨H, 3, none⟩ = some (.int .u32 (un s.d)) := by simp [World.cell?, hH', hashA]
  have c4 : w.cell? ⟨H, 4, none⟩ = some (.int .u32 (un s.e)) := by simp [World.cell?, hH', hashA]
  have c5 : w.cell? ⟨H, 5, none⟩ = some (.int .u32 (un s.f)) := by simp [World.cell?, hH', hashA]
  have c6 : w.cell? ⟨H, 6, none⟩ = some (.int .u32 (un s.g)) := by simp [World.cell?, hH', hashA]
  have c7 : w.cell? ⟨H, 7, none⟩ = some (.int .u32 (un s.h)) := by simp [World.cell?, hH', hashA]
  have c8 : w.cell? ⟨H, 8, none⟩ = some (.int .i64 l.length) := by simp [World.cell?, hH', hashA]
  have c9 : w.cell? ⟨H, 9, none⟩ = some (.slice RA (tailOf l).length rc) := by simp [World.cell?, hH', hashA]
  have HS := Aside0.mk hs
  clear hs hH'
  have HK : Aside0 (∀ w1, Fr No w w1 → w1.cell? ⟨H, 0, none⟩ = some (.int .u32 (un s.a)) ∧ w1.cell? ⟨H, 1, none⟩ = some (.int .u32 (un s.b)) ∧ w1.cell? ⟨H, 2, none⟩ = some (.int .u32 (un s.c)) ∧ w1.cell? ⟨H, 3, none⟩ = some (.int .u32 (un s.d)) ∧ w1.cell? ⟨H, 4, none⟩ = some (.int .u32 (un s.e)) ∧ w1.cell? ⟨H, 5, none⟩ = some (.int .u32 (un s.f)) ∧ w1.cell? ⟨H, 6, none⟩ = some (.int .u32 (un s.g)) ∧ w1.cell? ⟨H, 7, none⟩ = some (.int .u32 (un s.h)) ∧ w1.cell? ⟨H, 8, none⟩ = some (.int .i64 l.length) ∧ w1.cell? ⟨H, 9, none⟩ = some (.slice RA (tailOf l).length rc)) :=
    ⟨fun w1 hf => ⟨hf.cell c0 id, hf.cell c1 id, hf.cell c2 id, hf.cell c3 id, hf.cell c4 id, hf.cell c5 id, hf.cell c6 id, hf.cell c7 id, hf.cell c8 id, hf.cell c9 id⟩⟩
  go_enter Tryd.func29, Tryd.ntmps29
  go_wp2_with fail
  have HR1 : Aside0 (Rb w.drew RA (tailOf l)) := ⟨C_fr HR.out (Fr.refl No w).drew⟩
  have HF1 : Aside0 (Fr No w w.drew) := ⟨(Fr.refl No w).drew⟩
  have HM1 : Aside0 (Mine w.drew w.heap.size (.slice none 0 0) []) := ⟨Mine.nil _ _⟩
  go_region_held3 (fun w1 => w1.cell? ⟨H, 0, none⟩ = some (.int .u32 (un s.a)) ∧ w1.cell? ⟨H, 1, none⟩ = some (.int .u32 (un s.b)) ∧ w1.cell? ⟨H, 2, none⟩ = some (.int .u32 (un s.c)) ∧ w1.cell? ⟨H, 3, none⟩ = some (.int .u32 (un s.d)) ∧ w1.cell? ⟨H, 4, none⟩ = some (.int .u32 (un s.e)) ∧ w1.cell? ⟨H, 5, none⟩ = some (.int .u32 (un s.f)) ∧ w1.cell? ⟨H, 6, none⟩ = some (.int .u32 (un s.g)) ∧ w1.cell? ⟨H, 7, none⟩ = some (.int .u32 (un s.h)) ∧ w1.cell? ⟨H, 8, none⟩ = some (.int .i64 l.length) ∧ w1.cell? ⟨H, 9, none⟩ = some (.slice RA (tailOf l).length rc))
    (first | exact HK.out _ hf | exact HK.out _ HF1.out | go_keep)
    ((refine app_row_step (by rfl) _ _ 22 (by rfl) Tryd.underlying22 infoU8 (.slice none 0 0) [] (bi (tailOf l)) RA (tailOf l).length rc (by rfl) (by rfl) HM1.out HR1.out HF1.out HL.out ?_; intro v1 w1 hm hf hg; rw [List.nil_append] at hm; obtain ⟨A1, c1, rfl, hc1, hr1⟩ := hm.reads))
  have HX : Aside0 (HashOf (w1.alloc (.cells (hashA s l.length (.slice A1 (tailOf l).length c1)) 86)) w1.heap.size l (.slice A1 (tailOf l).length c1)) := ⟨⟨by
    rw [HS.out]
    exact heap_alloc_new w1 _, (hm.lower (Nat.zero_le _)).fr ((Fr.refl No w1).alloc _) (fun _ _ => id), fun h => by have := (hm.base _ h).2; omega⟩⟩
  have HFX : Aside0 (Fr No w (w1.alloc (.cells (hashA s l.length (.slice A1 (tailOf l).length c1)) 86))) := ⟨hf.alloc _⟩
  have HBX : Aside0 (∀ k, (Value.slice A1 (tailOf l).length c1).ownBlock = some k → w.heap.size ≤ k) := ⟨fun k hk => (hm.base k hk).1⟩
  have HGE : Aside0 (w.heap.size ≤ w1.heap.size) := ⟨hf.size⟩
  unfold hashA at HX HFX
  generalize hW : w1.alloc _ = W at HX HFX ⊢
  have HSZ : Aside0 (w1.heap.size < W.heap.size) := ⟨by rw [← hW]; simp⟩
  clear hW
  generalize w1.heap.size = E at *
  have c8W : W.cell? ⟨H, 8, none⟩ = some (.int .i64 l.length) := (HK.out W HFX.out).2.2.2.2.2.2.2.2.1
  have hmk : ∀ W, (Instr.makeSlice 22 (.int .i64 1) (.int .i64 128)).run Tryd.prog W = .ok (.slice (some ⟨W.heap.size, 0, none⟩) 1 128) (W.alloc (.cells (madeCells #[.int .u8 0] 128) 5)) := make_run (P := Tryd.prog) 22 Tryd.underlying22 infoU8 1 128 (by decide) (by decide)
  have hw1 : IntKind.u64.wrap (l.length : Int) = l.length := by have := HLE.out; rw [IntKind.wrap_u64]; omega
  have hw2 : IntKind.u64.wrap ((l.length : Int) * 8) = ((8 * l.length : Nat) : Int) := by have := HLE.out; rw [IntKind.wrap_u64]; omega
  obtain ⟨N8, hN8⟩ : ∃ N8 : Nat, 8 * l.length = N8 := ⟨_, rfl⟩
  rw [hN8] at hw2
  have hB0 := made_blk W 128
  have hB1 := made_blk1 W 128 128
  have hfz := hB0.free 0
  have hcz : (W.alloc (.cells (madeCells #[.int .u8 0] 128) 5)).cell? ⟨W.heap.size, 0, none⟩ = some (.int .u8 0) := hB0.cell 0 (by decide)
  have HM0 : Aside0 (Mine (W.alloc (.cells ((madeCells #[.int .u8 0] 128).setIfInBounds 0 (.int .u8 128)) 5)) W.heap.size (.slice (some ⟨W.heap.size, 0, none⟩) 1 128) (bi (128 :: List.replicate 0 0))) := ⟨Kd.R_mono (Blk.R (xs := [128]) (ys := List.replicate 127 0) hB1 (by decide)) (fun _ _ => trivial)⟩
  have HF0 : Aside0 (Fr No W (W.alloc (.cells ((madeCells #[.int .u8 0] 128).setIfInBounds 0 (.int .u8 128)) 5))) := ⟨(Fr.refl No W).alloc _⟩
  clear hB0 hB1
  go_wp2
  clear hcz hfz hw1 hw2 hmk c8W c8 c9 c0 c2 c3 c4 c5 c6 c7
  go_loopw [5] (fun v wr => ∃ k : Nat, k ≤ zerosOf l.length ∧ Aside0 (Mine wr W.heap.size v (bi (128 :: List.replicate k 0))) ∧ Aside0 (Fr No W wr)) (fun v _ => 64 - lenOf v)
  case atStart => exact ⟨0, Nat.zero_le _, HM0, HF0⟩
  case round =>
    clear HM0 HF0
    obtain ⟨k, hk, HM, HF⟩ := hrel
    obtain ⟨D, cd, hD, hcd, hrd⟩ := HM.out.reads
    obtain ⟨q, hq⟩ : ∃ q : Nat, k + 1 = q := ⟨_, rfl⟩
    have hlq := pad_len k q hq
    rw [hlq] at hD hcd
    subst hD
    have c8r : wr.cell? ⟨H, 8, none⟩ = some (.int .i64 l.length) := (HK.out wr (HFX.out.then_ HF.out)).2.2.2.2.2.2.2.2.1
    obtain ⟨r, hr⟩ : ∃ r : Nat, (l.length + q) % 64 = r := ⟨_, rfl⟩
    have hr56 := zeros_iff hk hq hr
    have hmod := mod_cast64 hr
    have hq64 : q ≤ 64 := by have := zeros_lt l.length; omega
    have hle := HLE.out
    have HQ := Aside0.mk hq
    have HK56 := Aside0.mk hr56
    clear hq hr hr56
    by_cases h56 : r = 56
    · have hkz := HK56.out.1 h56
      have hmod56 : ((l.length : Int) + (q : Int)) % 64 = 56 := by rw [hmod, h56]; rfl
      have HKZ := Aside0.mk hkz
      clear hmod h56 hkz HK56
      go_wp2
      have HM1 : Aside0 (Mine wr W.heap.size (.slice D q cd) (bi (128 :: List.replicate (zerosOf l.length) 0 ++ (len8 l.length).take 0))) := ⟨by have := HM.out; rw [HKZ.out] at this; simpa using this⟩
      clear hmod56 HM HKZ HQ c8r hlq hcd hle hk hrd
      go_loopw [5, 6] (fun v i wx => ∃ j : Nat, j ≤ 8 ∧ i = .int .i64 ((7 : Int) - (j : Int)) ∧ Aside0 (Mine wx W.heap.size v (bi (128 :: List.replicate (zerosOf l.length) 0 ++ (len8 l.length).take j))) ∧ Aside0 (Fr No W wx)) (fun _ i _ => (intOf i + 1).toNat)
      case atStart => exact ⟨0, by omega, rfl, HM1, HF⟩
      case round =>
        clear HM1 HF
        obtain ⟨j, hj, rfl, HM, HF⟩ := hrel
        by_cases hj8 : j < 8
        · obtain ⟨p, hp⟩ : ∃ p : Nat, 7 - j = p := ⟨_, rfl⟩
          have hpi : (7 : Int) - (j : Int) = (p : Int) := by omega
          have hp7 : p ≤ 7 := by omega
          rw [hpi]
          clear hpi
          have HBY := Aside0.mk (byte_len l.length p N8 hN8)
          have HPS := Aside0.mk (pad_step l.length j p hj8 hp)
          have HJ := Aside0.mk (And.intro hj8 hp)
          have HLL : Aside0 ((bi (128 :: List.replicate (zerosOf l.length) 0 ++ (len8 l.length).take j)).length + 1 ≤ 140737488355328) := ⟨by
            have hz := zeros_lt l.length
            rw [bi_length]
            simp [len8]
            omega⟩
          clear hj8 hp hj
          go_wp2_with (at_builtin; refine app_byte rfl _ _ 22 rfl Tryd.underlying22 infoU8 _ (bi (128 :: List.replicate (zerosOf l.length) 0 ++ (len8 l.length).take j)) ((N8 : Int) / 2 ^ (8 * p) % 256) rfl rfl HM.out HF.out HLL.out ?_; intro v1 w1 hm hf hg)
          rw [HBY.out, HPS.out] at hm
          refine ⟨⟨j + 1, HJ.out.1, ?_, ⟨hm⟩, ⟨hf⟩⟩, ?_⟩
          · have := HJ.out; congr 1; omega
          · simp only [intOf]; omega
        · obtain rfl : j = 8 := by omega
          have HMP : Aside0 (Mine wr W.heap.size u5 (bi (padOf l.length))) := HM
          obtain ⟨D3, cd3, hD3, hcd3, hrd3⟩ := HMP.out.reads
          subst hD3
          have HE := Aside0.mk (HX.out.fr HF.out id (fun _ _ => id))
          have HK3 := Aside0.mk ((HKA.out.fr HFX.out id).fr HF.out id)
          have HRB : Aside0 (∀ w', Fr (fun k => k = E ∨ (Value.slice A1 (tailOf l).length c1).ownBlock = some k) wr w' → Rb w' D3 (padOf l.length)) := ⟨fun w' hf => by
            have hm := HMP.out.fr hf (fun k hk hS => by
              have h1 := (HMP.out.base k hk).1
              rcases hS with hS | hS
              · have := HSZ.out; omega
              · have := (HX.out.rest.base k hS).2; omega)
            obtain ⟨A', c', e, _, hr⟩ := hm.reads
            obtain ⟨rfl, _, _⟩ := Value.slice.inj e
            exact hr⟩
          have HK4 : Aside0 (E ≠ 3 ∧ (Value.slice A1 (tailOf l).length c1).ownBlock ≠ some 3) := ⟨by have := HKA.out.lt; have := HGE.out; omega, fun h => by have := HKA.out.lt; have := HBX.out _ h; omega⟩
          have HLN : Aside0 (l.length + (padOf l.length).length ≤ 140737488353280) := ⟨by have := HLE.out; have := zeros_lt l.length; rw [padOf_length]; omega⟩
          clear hrd3
          go_wp2_with fail
          refine (add_calls wr E l _ HE.out (padOf l.length) D3 cd3 hcd3 HRB.out HLN.out HK3.out HK4.out.1 HK4.out.2).mono ?_
          rintro e w2 ⟨rv2, rfl, hE2, _, hf2⟩
          have HF2 : Aside0 (Fr No w w2) := ⟨(HFX.out.then_ HF.out).trans hf2 (fun k hk => by
            rcases hk with hk | hk
            · exact .inr (by have := HGE.out; omega)
            · exact .inr (HBX.out k hk))⟩
          have HE2 := Aside0.mk hE2.blk
          clear hE2 hf2 HRB HLN HK3 HK4 HE HMP HM HF HX HFX HBX HGE HSZ hcd3
          generalize hqs : absorb S8.init (l ++ padOf l.length) = qs at HE2
          have HQS := Aside0.mk hqs
          clear hqs
          have hmk2 : ∀ W, (Instr.makeSlice 22 (.int .i64 0) (.int .i64 32)).run Tryd.prog W = .ok (.slice (some ⟨W.heap.size, 0, none⟩) 0 32) (W.alloc (.cells (madeCells #[.int .u8 0] 32) 5)) := make_run (P := Tryd.prog) 22 Tryd.underlying22 infoU8 0 32 (by decide) (by decide)
          have HE3 := Aside0.mk (HE2.out.fr ((Fr.refl No w2).alloc (.cells (madeCells #[.int .u8 0] 32) 5)) id)
          have HM4 := Aside0.mk (mine_made w2 32 w.heap.size HF2.out.size (by decide))
          have HF4 : Aside0 (Fr No w (w2.alloc (.cells (madeCells #[.int .u8 0] 32) 5))) := ⟨HF2.out.alloc _⟩
          obtain ⟨d0, d1, d2, d3, d4, d5, d6, d7⟩ := HE3.out.cS
          go_wp2
          clear hmk2 d0 d1 d2 d3 d4 d5 d6 d7
          go_loopw [7, 66] (fun v i wx => ∃ k : Nat, k ≤ 8 ∧ i = .int .i64 k ∧ Aside0 (Mine wx w.heap.size v (bi ((qs.list.take k).flatMap outW))) ∧ Aside0 (Fr No w wx)) (fun _ i _ => 8 - (intOf i).toNat)
          case atStart => exact ⟨0, by omega, rfl, HM4, HF4⟩
          case round =>
            clear HM4 HF4 HE3 HE2
            obtain ⟨k, hk, rfl, HM, HF⟩ := hrel
            by_cases hlt : k < 8
            · obtain ⟨x, hx⟩ : ∃ x : BitVec 32, qs.list.getD k 0 = x := ⟨_, rfl⟩
              have hix := run_index_part (P := Tryd.prog) 84 76 8 (state8 qs) k (.int .u32 (un x)) (.int .u32) hlt rfl rfl rfl rfl (by rw [← hx]; exact state8_at qs k hlt)
              unfold state8 at hix
              have HXX := Aside0.mk (out_take qs k hlt x hx)
              have HLL := Aside0.mk (out_len qs k hk)
              clear hx
              have HMA : Aside0 (Mine (wr.alloc (.cells #[.int .u8 (un x / 16777216 % 256), .int .u8 (un x / 65536 % 256), .int .u8 (un x / 256 % 256), .int .u8 (un x % 256)] 5)) w.heap.size u7 (bi ((qs.list.take k).flatMap outW))) := ⟨HM.out.fr ((Fr.refl No wr).alloc _) (fun _ _ => id)⟩
              have HFA : Aside0 (Fr No w (wr.alloc (.cells #[.int .u8 (un x / 16777216 % 256), .int .u8 (un x / 65536 % 256), .int .u8 (un x / 256 % 256), .int .u8 (un x % 256)] 5))) := ⟨HF.out.alloc _⟩
              have HRA := Aside0.mk (out_reads wr x)
              go_wp2_with (at_builtin; refine app_row rfl _ _ 22 rfl Tryd.underlying22 infoU8 u7 (bi ((qs.list.take k).flatMap outW)) (bi (outW x)) _ 4 _ rfl rfl HMA.out HRA.out HFA.out HLL.out ?_; intro v1 w1 hm hf hg)
              rw [HXX.out] at hm
              exact ⟨⟨k + 1, by omega, by go_num, ⟨hm⟩, ⟨hf⟩⟩, by simp [intOf]; omega⟩
            · obtain rfl : k = 8 := by omega
              have hall : sha l = qs.list.flatMap outW := by unfold sha outS; rw [HQS.out]
              have HMF : Aside0 (Mine wr w.heap.size u7 (bi (sha l))) := ⟨by rw [hall]; exact HM.out⟩
              clear hall
              go_wp2
              go_ret
              exact ⟨_, rfl, HMF.out, HF.out⟩
    · have hkz : k < zerosOf l.length := by have := mt HK56.out.2 h56; omega
      have hb56 : ((r : Int) == 56) = false := beq_eq_false_iff_ne.2 (by omega)
      have HLL : Aside0 ((bi (128 :: List.replicate k 0)).length + 1 ≤ 140737488355328) := ⟨by rw [bi_length, hlq]; omega⟩
      have HKZ := Aside0.mk hkz
      clear HK56 h56 hkz hlq
      go_wp2_with (at_builtin; refine app_byte rfl _ _ 22 rfl Tryd.underlying22 infoU8 _ (bi (128 :: List.replicate k 0)) 0 rfl rfl HM.out HF.out HLL.out ?_; intro v1 w1 hm hf hg)
      rw [pad_next] at hm
      obtain ⟨D2, cd2, hD2, hcd2, _⟩ := hm.reads
      have hl2 := pad_len (k + 1) (q + 1) (by have := HQ.out; omega)
      rw [hl2] at hD2
      subst hD2
      exact ⟨⟨k + 1, HKZ.out, ⟨hm⟩, ⟨hf⟩⟩, by simp only [lenOf]; have := zeros_lt l.length; have := HKZ.out; have := HQ.out; omega⟩
theorem sum_calls (w : World) (H : Nat) (l : List UInt8) (rv : Value) (hH : HashOf w H l rv) (hK : KAt w) (hl : l.length ≤ 140737488351232) :
    Calls Tryd.prog 29 #[.pointer (some ⟨H, 0, none⟩)] w fun e w' => ∃ v, e = .returned v ∧ Mine w' w.heap.size v (bi (sha l)) ∧ Fr No w w' :=
  sumX_calls w H l rv hH hK (by omega)
end Go.Proofs.YtbaeddppihjgfaaDoor.Sg
