/- The walk of the law DigestTwoWay. -/
import Derived.Test.YtbaeddppihjgfaaUnhexWalk
namespace Go.Proofs.Ytbaeddppihjgfaa.Sg
open Go Go.RowKit Go.Proofs.YtbaeddppihjgfaaW.PrintWords
set_option linter.unusedVariables false
theorem num_calls (n : Int) (w : World) : Calls Try.prog 15 #[.int .i64 n] w fun e w' => e = .returned (.int .i64 n) ∧ w = w' := by
  go_enter Try.func15, Try.ntmps15
  go_wp2
  go_ret
  exact ⟨rfl, rfl⟩
theorem unhex_some (L m : List UInt8) (w : World) (hl : L.length ≤ 2097152) (h : unhexL L = some m) :
    Calls Try.prog 21 #[.string ⟨L.toArray⟩] w fun e w' => ∃ v, e = .returned (.tuple #[v, .int .i64 0]) ∧ Mine w' w.heap.size v (bi m) ∧ Fr No w w' :=
  (unhex_calls L w hl).mono fun e w' ⟨hf, hh⟩ => by
    rcases hh with ⟨v, m', h1, h2, h3⟩ | ⟨h1, _⟩
    · rw [h] at h1; cases h1; exact ⟨v, h2, h3, hf⟩
    · rw [h] at h1; cases h1
theorem unhex_none (L : List UInt8) (w : World) (hl : L.length ≤ 2097152) (h : unhexL L = none) :
    Calls Try.prog 21 #[.string ⟨L.toArray⟩] w fun e w' => e = .returned (.tuple #[.slice none 0 0, .int .i64 31]) ∧ Fr No w w' :=
  (unhex_calls L w hl).mono fun e w' ⟨hf, hh⟩ => by
    rcases hh with ⟨v, m', h1, h2, h3⟩ | ⟨_, h2⟩
    · rw [h] at h1; cases h1
    · exact ⟨h2, hf⟩
theorem str_eq (a b : List UInt8) : ((⟨a.toArray⟩ : ByteArray).toList == (⟨b.toArray⟩ : ByteArray).toList) = decide (a = b) := by
  rw [ByteArray.toList_eq, ByteArray.toList_eq]; exact (Bool.eq_iff_iff.2 (by simp))
set_option maxRecDepth 100000 in
set_option maxHeartbeats 2000000 in
theorem twoWay_walk (w : World) (b : List UInt8) (A : Option Addr) (c : Nat) (hr : Rb w A b) (hc : b.length ≤ c) (hl : b.length ≤ 1048576) (S : List UInt8) (hs : S.length ≤ 1048576) :
    Calls Try.prog 9 #[.slice A b.length c, .string ⟨S.toArray⟩] w fun e w' => e = .returned (.bool true) ∧ Fr No w w' := by
  have HR := Aside0.mk hr
  clear hr
  have hsz : (⟨(hexL b).toArray⟩ : ByteArray).size = 2 * b.length := by simp [ByteArray.size, hexL_length]
  have hlh : (hexL b).length ≤ 2097152 := by rw [hexL_length]; omega
  have hne : ((2 * (b.length : Int)) != (2 * (b.length : Int))) = false := bne_self_eq_false _
  go_enter Try.func9, Try.ntmps9
  go_wp2_with fail
  refine (hex_calls b A c _ HR.out hl).mono ?_
  rintro e w1 ⟨rfl, hf1⟩
  have HF1 := Aside0.mk hf1; clear hf1
  go_wp2_with fail
  refine (unhex_some (hexL b) b _ hlh (unhex_hex b)).mono ?_
  rintro e w2 ⟨v, rfl, hm, hf⟩
  obtain ⟨X, cx, rfl, hcx, hrx⟩ := hm.reads
  have HX := Aside0.mk hrx
  have HF2 : Aside0 (Fr No w w2) := ⟨HF1.out.then_ hf⟩
  have HR2 : Aside0 (Rb w2 A b) := ⟨C_fr HR.out HF2.out⟩
  clear hm hf hrx HF1
  have hbb : decide (b = b) = true := decide_eq_true rfl
  go_wp2_with fail
  refine (num_calls _ _).mono ?_
  rintro e w3 ⟨rfl, rfl⟩
  go_wp2_with fail
  refine (same_calls b b _ _ _ _ _ HX.out HR2.out).mono ?_
  rintro e w3 ⟨rfl, rfl⟩
  go_wp2_with fail
  cases hu : unhexL S with
  | none =>
    refine (unhex_none S _ (by omega) hu).mono ?_
    rintro e w3 ⟨rfl, hf⟩
    have HF3 : Aside0 (Fr No w w3) := ⟨HF2.out.then_ hf⟩
    clear hf hu
    go_wp2_with fail
    refine (num_calls _ _).mono ?_
    rintro e w4 ⟨rfl, rfl⟩
    go_wp2_with fail
    have H1 : Aside0 (Rb (w3.alloc (.cells #[.int .u8 171] 5)) (some ⟨w3.heap.size, 0, none⟩) [171]) := ⟨lit_reads w3 [171] (by simp)⟩
    refine (hex_calls [171] _ _ _ H1.out (by simp)).mono ?_
    rintro e w4 ⟨rfl, hf⟩
    have HF4 : Aside0 (Fr No w w4) := ⟨(HF3.out.alloc _).then_ hf⟩
    clear hf
    have hab : ((⟨(hexL [171]).toArray⟩ : ByteArray).toList == (⟨#[97, 98]⟩ : ByteArray).toList) = true := by decide +kernel
    go_wp2_with fail
    refine (num_calls _ _).mono ?_
    rintro e w5 ⟨rfl, rfl⟩
    go_wp2
    go_ret
    exact ⟨rfl, HF4.out⟩
  | some m =>
    refine (unhex_some S m _ (by omega) hu).mono ?_
    rintro e w3 ⟨v, rfl, hm, hf⟩
    obtain ⟨Y, cy, rfl, hcy, hry⟩ := hm.reads
    have hY := Aside0.mk hry
    have HF3 : Aside0 (Fr No w w3) := ⟨HF2.out.then_ hf⟩
    have he := hex_unhex S m hu
    have hml : m.length ≤ 1048576 := by have := congrArg List.length he; rw [hexL_length] at this; omega
    have hss : (hexL m == S) = true := beq_iff_eq.2 he
    clear hm hf hry hu he
    go_wp2_with fail
    refine (num_calls _ _).mono ?_
    rintro e w4 ⟨rfl, rfl⟩
    go_wp2_with fail
    refine (hex_calls m _ _ _ hY.out hml).mono ?_
    rintro e w4 ⟨rfl, hf⟩
    have HF4 : Aside0 (Fr No w w4) := ⟨HF3.out.then_ hf⟩
    clear hf
    go_wp2
    go_ret
    exact ⟨rfl, HF4.out⟩
end Go.Proofs.Ytbaeddppihjgfaa.Sg
