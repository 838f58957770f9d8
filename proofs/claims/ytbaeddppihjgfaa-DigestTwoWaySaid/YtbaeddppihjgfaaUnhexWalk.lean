/- The walks of Unhex, the program's and the reference's. -/
import Derived.Test.YtbaeddppihjgfaaHexWalk
namespace Go.Proofs.Ytbaeddppihjgfaa.Sg
open Go Go.RowKit Go.Proofs.YtbaeddppihjgfaaW.PrintWords
set_option linter.unusedVariables false
theorem index_str (L : List UInt8) (i : Nat) (h : i < L.length) (w : World) : (Instr.index 9 (.string ⟨L.toArray⟩) (.int .i64 (i : Int))).run Try.prog w = .ok (.int .u8 (L[i].toNat : Int)) w := by
  have hs : i < (⟨L.toArray⟩ : ByteArray).size := by simpa [ByteArray.size] using h
  have h0 : (0 : Int) ≤ (i : Int) := by omega
  have h1 : (i : Int) < ((⟨L.toArray⟩ : ByteArray).size : Int) := by omega
  rw [run_index_string _ _ _ _ _ Try.underlying9, dif_pos ⟨h0, h1⟩]
  rfl
def UnhexPost (L : List UInt8) (w : World) (e : Ending) (w' : World) : Prop :=
  Fr No w w' ∧ ((∃ v m, unhexL L = some m ∧ e = .returned (.tuple #[v, .int .i64 0]) ∧ Mine w' w.heap.size v (bi m)) ∨ (unhexL L = none ∧ e = .returned (.tuple #[.slice none 0 0, .int .i64 31])))
theorem wv_some (j : Nat) : wv (some j) = (j : Int) := rfl
theorem or16 (i j : Nat) (hi : i < 16) (hj : j < 16) : bits .or .i64 ((i : Int) * 16) (j : Int) % 256 = ((UInt8.ofNat (16 * i + j)).toNat : Int) := by
  have h : ∀ i j : Fin 16, bits .or .i64 ((i.val : Int) * 16) (j.val : Int) % 256 = ((UInt8.ofNat (16 * i.val + j.val)).toNat : Int) := by decide +kernel
  exact h ⟨i, hi⟩ ⟨j, hj⟩
set_option maxRecDepth 100000 in
set_option maxHeartbeats 1000000 in
theorem unhex_calls (L : List UInt8) (w : World) (hl : L.length ≤ 2097152) :
    Calls Try.prog 21 #[.string ⟨L.toArray⟩] w (UnhexPost L w) := by
  have hsz : (⟨L.toArray⟩ : ByteArray).size = L.length := by simp [ByteArray.size]
  by_cases hodd : L.length % 2 = 1
  · have HO := Aside0.mk (unhex_odd L hodd)
    go_enter Try.func21, Try.ntmps21
    go_wp2
    go_ret2
    exact ⟨Fr.refl _ _, .inr ⟨HO.out, rfl⟩⟩
  · obtain ⟨n, hn⟩ : ∃ n, L.length = 2 * n := ⟨L.length / 2, by omega⟩
    have HN := Aside0.mk hn
    have hev : (L.length : Int) = 2 * (n : Int) := by omega
    clear hodd
    have hmk := make0 (P := Try.prog) 25 Try.underlying25 infoU8 n (by omega)
    have HM := Aside0.mk (mine_made w n w.heap.size (Nat.le_refl _) (by simp [maxLen]; omega))
    have HF0 : Aside0 (Fr No w (w.alloc (.cells (madeCells #[.int .u8 0] n) 5))) := ⟨(Fr.refl No w).alloc _⟩
    clear hn
    have hm2 : (2 * (n : Int)) % 2 = 0 := by omega
    have hd2 : (2 * (n : Int)) / 2 = (n : Int) := by omega
    have hb2 : ((2 * (n : Int)) % 2 != 0) = false := by rw [hm2]; rfl
    go_enter Try.func21, Try.ntmps21
    go_wp2
    go_loopw [4, 5] (fun v i wr => ∃ (k : Nat) (m : List UInt8), k ≤ n ∧ i = .int .i64 (2 * (k : Int)) ∧ Aside0 (m.length = k) ∧ Aside0 (unhexL (L.take (2 * k)) = some m) ∧ Aside0 (Mine wr w.heap.size v (bi m)) ∧ Aside0 (Fr No w wr)) (fun _ i _ => 2 * n - (intOf i).toNat)
    case atStart => exact ⟨0, [], by omega, rfl, ⟨rfl⟩, ⟨rfl⟩, HM, HF0⟩
    case round =>
      clear HM HF0 hmk
      obtain ⟨k, m, hk, rfl, HL, HU, HV, HF⟩ := hrel
      by_cases hlt : k < n
      · have hk2 : 2 * k + 1 < L.length := by have := HN.out; omega
        have hix1 := fun w => index_str L (2 * k) (by omega) w
        have hix2 := fun w => index_str L (2 * k + 1) hk2 w
        have e1 : ((2 * k : Nat) : Int) = 2 * (k : Int) := by omega
        have e2 : ((2 * k + 1 : Nat) : Int) = 2 * (k : Int) + 1 := by omega
        rw [e1] at hix1
        rw [e2] at hix2
        clear e1 e2
        have HGO := Aside0.mk (unhex_go k L m HU.out hk2)
        have HST := Aside0.mk (unhex_stop k L m HU.out hk2)
        generalize L[2 * k] = x at *
        generalize L[2 * k + 1] = y at *
        have hwr : IntKind.i64.wrap (2 * (k : Int) + 1) = 2 * (k : Int) + 1 := IntWalk.i64_in _ (by omega)
        go_wp2_with fail
        go_quiet ((go_at_call 31; refine (worth_calls _ _).mono ?_; rintro e w' ⟨rfl, rfl⟩; exact ⟨rfl, _, rfl⟩))
        have HF1 : Aside0 (Fr No w (wr.drewN nq)) := ⟨HF.out.drewN nq⟩
        have HV1 : Aside0 (Mine (wr.drewN nq) w.heap.size u4 (bi m)) := ⟨HV.out⟩
        cases h1 : worthN x with
        | none =>
          have HS := Aside0.mk (HST.out (.inl h1))
          have hq : decide (wv none < 0) = true := rfl
          clear h1
          go_wp2
          go_ret2
          exact ⟨HF1.out, .inr ⟨HS.out, rfl⟩⟩
        | some i =>
          have hi := worthN_lt h1
          have hi0 : decide ((i : Int) < 0) = false := decide_eq_false (by omega)
          have hwi := wv_some i
          cases h2 : worthN y with
          | none =>
            have HS := Aside0.mk (HST.out (.inr h2))
            clear h1 h2
            have hq : decide (wv none < 0) = true := rfl
            go_wp2
            go_ret2
            exact ⟨HF1.out, .inr ⟨HS.out, rfl⟩⟩
          | some j =>
            have hj := worthN_lt h2
            have HG := Aside0.mk (HGO.out i j h1 h2)
            have hwj := wv_some j
            have hj0 : decide ((j : Int) < 0) = false := decide_eq_false (by omega)
            clear h1 h2
            have hor := or16 i j hi hj
            go_wp2_with (at_builtin; refine app_byte rfl (.tmp 37) (.tmp 43) 25 rfl Try.underlying25 infoU8 _ (bi m) _ rfl rfl HV1.out HF1.out (by rw [bi_length, HL.out]; omega) ?_)
            intro v1 w1 hm hf hg
            have HV2 : Aside0 (Mine w1 w.heap.size v1 (bi (m ++ two i j []))) := ⟨by rw [bi_append]; exact hm⟩
            have HF2 := Aside0.mk hf
            clear hm hf hg hor hwi hwj hi0 hj0
            go_wp2
            exact ⟨⟨k + 1, m ++ two i j [], by omega, by congr 1, ⟨by rw [List.length_append, HL.out]; rfl⟩, HG, HV2, HF2⟩, by simp [intOf]; omega⟩
      · obtain rfl : k = n := by omega
        have HT : Aside0 (unhexL L = some m) := ⟨by have := HU.out; rwa [List.take_of_length_le (by have := HN.out; omega)] at this⟩
        go_wp2
        go_ret2
        exact ⟨HF.out, .inl ⟨_, m, HT.out, rfl, HV.out⟩⟩
theorem add16 (i j : Nat) (hi : i < 16) (hj : j < 16) : 16 * (i : Int) + (j : Int) = ((UInt8.ofNat (16 * i + j)).toNat : Int) := by
  rw [UInt8.toNat_ofNat']; omega
set_option maxRecDepth 100000 in
set_option maxHeartbeats 1000000 in
theorem refUnhex_calls (L : List UInt8) (w : World) (hl : L.length ≤ 2097152) :
    Calls Try.prog 22 #[.string ⟨L.toArray⟩] w (UnhexPost L w) := by
  have hsz : (⟨L.toArray⟩ : ByteArray).size = L.length := by simp [ByteArray.size]
  by_cases hodd : L.length % 2 = 1
  · have HO := Aside0.mk (unhex_odd L hodd)
    go_enter Try.func22, Try.ntmps22
    go_wp2
    go_ret2
    exact ⟨Fr.refl _ _, .inr ⟨HO.out, rfl⟩⟩
  · obtain ⟨n, hn⟩ : ∃ n, L.length = 2 * n := ⟨L.length / 2, by omega⟩
    have HN := Aside0.mk hn
    have hev : (L.length : Int) = 2 * (n : Int) := by omega
    clear hodd
    clear hn
    have hm2 : (2 * (n : Int)) % 2 = 0 := by omega
    have hd2 : (2 * (n : Int)) / 2 = (n : Int) := by omega
    have hb2 : ((2 * (n : Int)) % 2 != 0) = false := by rw [hm2]; rfl
    go_enter Try.func22, Try.ntmps22
    go_wp2
    go_loopw [4, 5] (fun v i wr => ∃ (k : Nat) (m : List UInt8), k ≤ n ∧ i = .int .i64 (2 * (k : Int)) ∧ Aside0 (m.length = k) ∧ Aside0 (unhexL (L.take (2 * k)) = some m) ∧ Aside0 (Mine wr w.heap.size v (bi m)) ∧ Aside0 (Fr No w wr)) (fun _ i _ => 2 * n - (intOf i).toNat)
    case atStart => exact ⟨0, [], by omega, rfl, ⟨rfl⟩, ⟨rfl⟩, ⟨Mine.nil _ _⟩, ⟨Fr.refl _ _⟩⟩
    case round =>
      obtain ⟨k, m, hk, rfl, HL, HU, HV, HF⟩ := hrel
      by_cases hlt : k < n
      · have hk2 : 2 * k + 1 < L.length := by have := HN.out; omega
        have hix1 := fun w => index_str L (2 * k) (by omega) w
        have hix2 := fun w => index_str L (2 * k + 1) hk2 w
        have e1 : ((2 * k : Nat) : Int) = 2 * (k : Int) := by omega
        have e2 : ((2 * k + 1 : Nat) : Int) = 2 * (k : Int) + 1 := by omega
        rw [e1] at hix1
        rw [e2] at hix2
        clear e1 e2
        have HGO := Aside0.mk (unhex_go k L m HU.out hk2)
        have HST := Aside0.mk (unhex_stop k L m HU.out hk2)
        generalize L[2 * k] = x at *
        generalize L[2 * k + 1] = y at *
        have hwr : IntKind.i64.wrap (2 * (k : Int) + 1) = 2 * (k : Int) + 1 := IntWalk.i64_in _ (by omega)
        have HF1 := HF
        have HV1 := HV
        go_wp2_with fail
        refine (digit_calls _ _).mono ?_
        rintro e w' ⟨rfl, rfl⟩
        go_wp2_with fail
        refine (digit_calls _ _).mono ?_
        rintro e w' ⟨rfl, rfl⟩
        cases h1 : worthN x with
        | none =>
          have HS := Aside0.mk (HST.out (.inl h1))
          have hq : decide (wv none < 0) = true := rfl
          clear h1
          go_wp2
          go_ret2
          exact ⟨HF1.out, .inr ⟨HS.out, rfl⟩⟩
        | some i =>
          have hi := worthN_lt h1
          have hi0 : decide ((i : Int) < 0) = false := decide_eq_false (by omega)
          have hwi := wv_some i
          cases h2 : worthN y with
          | none =>
            have HS := Aside0.mk (HST.out (.inr h2))
            clear h1 h2
            have hq : decide (wv none < 0) = true := rfl
            go_wp2
            go_ret2
            exact ⟨HF1.out, .inr ⟨HS.out, rfl⟩⟩
          | some j =>
            have hj := worthN_lt h2
            have HG := Aside0.mk (HGO.out i j h1 h2)
            have hwj := wv_some j
            have hj0 : decide ((j : Int) < 0) = false := decide_eq_false (by omega)
            clear h1 h2
            go_wp2_with (at_builtin; refine app_byte rfl (.tmp 33) (.tmp 39) 25 rfl Try.underlying25 infoU8 _ (bi m) _ rfl rfl HV1.out HF1.out (by rw [bi_length, HL.out]; omega) ?_)
            intro v1 w1 hm hf hg
            have HV2 : Aside0 (Mine w1 w.heap.size v1 (bi (m ++ two i j []))) := ⟨by rw [bi_append]; rw [add16 i j hi hj] at hm; exact hm⟩
            have HF2 := Aside0.mk hf
            clear hm hf hg hwi hwj hi0 hj0
            go_wp2
            exact ⟨⟨k + 1, m ++ two i j [], by omega, by congr 1, ⟨by rw [List.length_append, HL.out]; rfl⟩, HG, HV2, HF2⟩, by simp [intOf]; omega⟩
      · obtain rfl : k = n := by omega
        have HT : Aside0 (unhexL L = some m) := ⟨by have := HU.out; rwa [List.take_of_length_le (by have := HN.out; omega)] at this⟩
        go_wp2
        go_ret2
        exact ⟨HF.out, .inl ⟨_, m, HT.out, rfl, HV.out⟩⟩
end Go.Proofs.Ytbaeddppihjgfaa.Sg
