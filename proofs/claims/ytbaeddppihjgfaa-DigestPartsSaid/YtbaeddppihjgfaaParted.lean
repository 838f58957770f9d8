/- The walk of parted: either Parts tells the same of any bytes. -/
import Derived.Test.YtbaeddppihjgfaaPartsC
namespace Go.Proofs.Ytbaeddppihjgfaa.Sg
open Go Go.RowKit Go.Proofs.YtbaeddppihjgfaaW.PrintWords
set_option linter.unusedVariables false
theorem numP_calls (n : Int) (w : World) : Calls Try.prog 15 #[.int .i64 n] w fun e w' => e = .returned (.int .i64 n) ∧ w = w' := by
  go_enter Try.func15, Try.ntmps15
  go_wp2
  go_ret
  exact ⟨rfl, rfl⟩
theorem KB_reads {w : World} {base : Nat} {ok : Nat → Prop} {v : Value} {ls : List (List UInt8)} (h : Kd.R KB 25 w base ok v (ls.map bi)) : ∃ A c, v = .slice A ls.length c ∧ ls.length ≤ c ∧ Rbs w A ls := by
  obtain ⟨A, c, e, hl, hr⟩ := Kd.R_reads h
  rw [List.length_map] at e hl hr
  exact ⟨A, c, e, hl, hr⟩
theorem room_fr {S : Nat → Prop} {w w1 : World} {g : Nat} {l : List UInt8} (h : Room w g l) (hf : Fr S w w1) (hn : ¬ S g) : Room w1 g l := Blk.fr h hf hn
/-- The last byte another one. -/
def flipEnd (l : List UInt8) : List UInt8 := match l with
  | [] => []
  | x :: r => (x :: r).set r.length (flip1 ((x :: r)[r.length]'(by simp)))
theorem flipEnd_length (l : List UInt8) : (flipEnd l).length = l.length := by
  cases l with
  | nil => rfl
  | cons x r => simp [flipEnd]
theorem flipEnd_pos (l : List UInt8) (q : Nat) (hq : l.length = q + 1) : flipEnd l = l.set q (flip1 (l[q]'(by omega))) := by
  cases l with
  | nil => simp at hq
  | cons x r =>
    have : q = r.length := by simpa using hq.symm
    subst this
    rfl
theorem flipEnd_room {w : World} {g : Nat} {l : List UInt8} (q : Nat) (hq : l.length = q + 1) (h : Room w g l) : Room (w.setCell ⟨g, q, none⟩ (.int .u8 ((flip1 (l[q]'(by omega))).toNat : Int))) g (flipEnd l) := by
  have h1 := Blk.set h q ((flip1 (l[q]'(by omega))).toNat : Int)
  rw [flipEnd_pos l q hq]
  unfold Room
  have e : (bi l ++ six).set q ((flip1 (l[q]'(by omega))).toNat : Int) = bi (l.set q (flip1 (l[q]'(by omega)))) ++ six := by
    rw [List.set_append_left _ _ (by rw [bi_length]; omega)]
    congr 1
    unfold bi
    rw [← List.map_set]
  rw [← e]
  exact h1
set_option maxRecDepth 100000 in
set_option maxHeartbeats 4000000 in
theorem parted_calls (l : List UInt8) (A : Option Addr) (c : Nat) (w : World) (hr : Rb w A l) (hc : l.length ≤ c) (hl : l.length ≤ 140737488351232) :
    Calls Try.prog 26 #[.slice A l.length c] w fun e w' => e = .returned (.bool true) ∧ Fr No w w' := by
  have HR := Aside0.mk hr
  clear hr
  have hee : (partsE l == partsE l) = true := beq_self_eq_true _
  go_enter Try.func26, Try.ntmps26
  go_wp2_with fail
  refine (roomy_calls l A c _ HR.out hl).mono ?_
  rintro e w1 ⟨g, rfl, hg, hm, hf⟩
  have HG := Aside0.mk hg; have HM1 := Aside0.mk hm; have HF1 := Aside0.mk hf
  clear hg hm hf
  go_wp2_with fail
  refine (parts_calls l _ (l.length + 6) w1 (HM1.out.le hl) (by omega) hl).mono ?_
  rintro e w2 ⟨v, rfl, hm, hf⟩
  obtain ⟨X, cx, rfl, hcx, hrx⟩ := KB_reads hm
  have HX2 := Aside0.mk hrx
  have HF2 : Aside0 (Fr No w w2) := ⟨HF1.out.then_ hf⟩
  have HM2 : Aside0 (Room w2 g l) := ⟨room_fr HM1.out hf id⟩
  clear hm hf hrx HF1 HM1
  go_wp2_with fail
  refine (refParts_calls l A c w2 (C_fr HR.out HF2.out) hl).mono ?_
  rintro e w3 ⟨v, rfl, hm, hf⟩
  obtain ⟨Y, cy, rfl, hcy, hry⟩ := KB_reads hm
  have HY3 := Aside0.mk hry
  have HX3 : Aside0 (Rbs w3 X (partsL l)) := ⟨HX2.out.fr hf⟩
  have HF3 : Aside0 (Fr No w w3) := ⟨HF2.out.then_ hf⟩
  have HM3 : Aside0 (Room w3 g l) := ⟨room_fr HM2.out hf id⟩
  clear hm hf hry HF2 HM2 HX2 hcx hcy
  generalize partsL l = ps at *
  generalize partsE l = e0 at *
  go_wp2_with fail
  refine (sameAll_calls ps ps _ _ _ _ w3 HX3.out HY3.out).mono ?_
  rintro e w4 ⟨rfl, hf⟩
  have hdd : decide (ps = ps) = true := decide_eq_true rfl
  have HF4 : Aside0 (Fr No w w4) := ⟨HF3.out.then_ hf⟩
  have HM4 : Aside0 (Room w4 g l) := ⟨room_fr HM3.out hf id⟩
  clear hf HF3 HM3 HX3 HY3
  go_wp2_with fail
  refine (numP_calls _ _).mono ?_
  rintro e w5 ⟨rfl, rfl⟩
  go_wp2_with fail
  refine (kept_calls l g A c w4 HM4.out (C_fr HR.out HF4.out) hl).mono ?_
  rintro e w5 ⟨rfl, rfl⟩
  go_upto_if 39 with fail
  go_cut [3] (fun s3 wx => s3 = .slice (some ⟨g, 0, none⟩) l.length (l.length + 6) ∧ Aside0 (Room wx g (flipEnd l)) ∧ Aside0 (Fr No w wx))
  case first =>
    by_cases hz : l.length = 0
    · obtain rfl : l = [] := List.length_eq_zero_iff.1 hz
      clear hz
      go_wp2_with fail
      go_meet
      exact ⟨rfl, HM4, HF4⟩
    · obtain ⟨q, hq⟩ : ∃ q, l.length = q + 1 := ⟨l.length - 1, by omega⟩
      have hcell := Blk.cell HM4.out q (by simp [bi, six]; omega)
      have hval : (bi l ++ six)[q]'(by simp [bi, six]; omega) = un (b2w (l[q]'(by omega))) := by
        rw [un_b2w, List.getElem_append_left (by simp [bi]; omega)]
        simp [bi]
      rw [hval] at hcell
      clear hval
      have hx := flip1_num (l[q]'(by omega))
      have hfree := Blk.free HM4.out q
      have HS := Aside0.mk (flipEnd_room q hq HM4.out)
      have HFS : Aside0 (Fr No w (w4.setCell ⟨g, q, none⟩ (.int .u8 ((flip1 (l[q]'(by omega))).toNat : Int)))) := ⟨HF4.out.setCell (.inr HG.out) _⟩
      generalize l[q]'(by omega) = b at *
      have hqi : (l.length : Int) - 1 = (q : Int) := by omega
      have hpos : (0 : Int) < (l.length : Int) := by omega
      have hql : q < l.length := by omega
      clear hz hq
      go_wp2_with fail
      go_meet
      exact ⟨rfl, HS, HFS⟩
  case rest =>
    obtain ⟨rfl, HM5, HF5⟩ := hcut
    have hml := flipEnd_length l
    rw [← hml] at hl ⊢
    clear hee hdd HF4 HM4 HR hc hml
    generalize flipEnd l = m at *
    have hee : (partsE m == partsE m) = true := beq_self_eq_true _
    have HB1 : Aside0 (Room (wc.alloc (.cells #[] 5)) g m) := ⟨Blk.alloc HM5.out _⟩
    have HR : Aside0 (Kd.C (Kd.int .u8) (wc.alloc (.cells #[] 5)) (some ⟨g, 0, none⟩) m.length (bi m)) := ⟨HB1.out.le hl⟩
    have HO := Aside0.mk (own_empty wc)
    go_wp2_with (at_builtin; refine Kd.R_append_row (Value.int .u8) 0 (w0 := wc.alloc (.cells #[] 5)) wc.heap.size rfl (.tmp 52) (.tmp 53) 25 5 (.int .u8 0) 1 rfl Try.underlying25 infoU8 rfl (by decide) _ [] (bi m) _ _ _ (fun _ => True) rfl rfl (fun _ _ => trivial) HO.out HR.out (Below.refl _ _) ?hb ?hl ?_)
    case hb => simp
    case hl => simp; omega
    intro v1 w1 ho hb hg hat
    have hF0 := Fr.of_grown hg
    have HF6 : Aside0 (Fr No w w1) := ⟨(HF5.out.alloc _).trans hF0 (fun k hk => .inr (by subst hk; exact HF5.out.size))⟩
    have HM6 : Aside0 (Room w1 g m) := ⟨HB1.out.blk.fr hF0 (by have := HM5.out.blk.lt; omega)⟩
    obtain ⟨A1, c1, rfl, hc1, hr1⟩ := Kd.R_reads ho
    rw [bi_length] at hc1 hr1 ⊢
    have HR6 : Aside0 (Rb w1 A1 m) := ⟨hr1⟩
    clear ho hb hg hat hF0 hr1 HM5 HF5 HB1 HR HO
    go_wp2_with fail
    refine (parts_calls m _ (m.length + 6) w1 (HM6.out.le hl) (by omega) hl).mono ?_
    rintro e w7 ⟨v, rfl, hm, hf⟩
    obtain ⟨X, cx2, rfl, hcx, hrx⟩ := KB_reads hm
    have HX2 := Aside0.mk hrx
    have HF7 : Aside0 (Fr No w w7) := ⟨HF6.out.then_ hf⟩
    have HM7 : Aside0 (Room w7 g m) := ⟨room_fr HM6.out hf id⟩
    have HR7 : Aside0 (Rb w7 A1 m) := ⟨C_fr HR6.out hf⟩
    clear hm hf hrx HF6 HM6 HR6
    go_wp2_with fail
    refine (refParts_calls m A1 c1 w7 HR7.out hl).mono ?_
    rintro e w8 ⟨v, rfl, hm, hf⟩
    obtain ⟨Y, cy2, rfl, hcy, hry⟩ := KB_reads hm
    have HY3 := Aside0.mk hry
    have HX3 : Aside0 (Rbs w8 X (partsL m)) := ⟨HX2.out.fr hf⟩
    have HF8 : Aside0 (Fr No w w8) := ⟨HF7.out.then_ hf⟩
    have HM8 : Aside0 (Room w8 g m) := ⟨room_fr HM7.out hf id⟩
    have HR8 : Aside0 (Rb w8 A1 m) := ⟨C_fr HR7.out hf⟩
    clear hm hf hry HF7 HM7 HX2 HR7 hcx hcy
    generalize partsL m = ps2 at *
    generalize partsE m = e2 at *
    go_wp2_with fail
    refine (sameAll_calls ps2 ps2 _ _ _ _ w8 HX3.out HY3.out).mono ?_
    rintro e w9 ⟨rfl, hf⟩
    have hdd : decide (ps2 = ps2) = true := decide_eq_true rfl
    have HF9 : Aside0 (Fr No w w9) := ⟨HF8.out.then_ hf⟩
    have HM9 : Aside0 (Room w9 g m) := ⟨room_fr HM8.out hf id⟩
    have HR9 : Aside0 (Rb w9 A1 m) := ⟨C_fr HR8.out hf⟩
    clear hf HF8 HM8 HX3 HY3 HR8
    go_wp2_with fail
    refine (numP_calls _ _).mono ?_
    rintro e w10 ⟨rfl, rfl⟩
    go_wp2_with fail
    refine (kept_calls m g A1 c1 w9 HM9.out HR9.out hl).mono ?_
    rintro e w10 ⟨rfl, rfl⟩
    go_wp2_with fail
    go_ret
    exact ⟨rfl, HF9.out⟩
end Go.Proofs.Ytbaeddppihjgfaa.Sg
