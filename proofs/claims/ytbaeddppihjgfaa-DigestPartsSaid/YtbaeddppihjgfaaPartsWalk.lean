/- The walk of the law DigestParts. -/
import Derived.Test.YtbaeddppihjgfaaParted
import Derived.Test.YtbaeddppihjgfaaTurned
import Derived.Test.YtbaeddppihjgfaaOpenTurns
namespace Go.Proofs.Ytbaeddppihjgfaa.Sg
open Go Go.RowKit Go.Proofs.YtbaeddppihjgfaaW.PrintWords
set_option linter.unusedVariables false
theorem run_loadVar_cellsP {P : Program} (w : World) (a : Addr) (ty : TypeId) (cs : Array Value) (d : TypeDesc) (hg : ∀ j v, cs.toList[j]? = some v → w.cell? (a.add j) = some v)
    (hu : P.underlying ty = some d) (hd : (match d with | .struct _ | .array _ _ => true | _ => false) = true) (hi : (P.info? ty).map (·.size) = some cs.size) :
    (loadVar ty a).run P w = .ok (.agg cs) w := by
  have hl : (loadCells a cs.toList.length).run P w = .ok cs.toList.toArray w := run_loadCells_list (P := P) w a cs.toList hg
  cases hq : P.info? ty with
  | none => simp [hq] at hi
  | some i =>
    have hs : i.size = cs.size := by simpa [hq] using hi
    have hagg : (isAgg ty).run P w = .ok true w := by
      unfold isAgg
      rw [Sem.run_bind, run_underlying hu w]
      cases d <;> simp_all
    simp only [Array.length_toList, Array.toArray_toList] at hl
    simp [loadVar, Sem.run_bind, hagg, sizeOf, typeInfo, hq, hs, hl]
theorem wpList_load_cellsP {P : Program} {ops : Array Oper} {rest : List Oper} {o : Oper} {a : Act} {w : World} {Q : Exit → Act → World → Prop} (hgd : o.guard = none) (ty : TypeId) (x : Operand) (ho : o.op = .load ty x)
    (ad : Addr) (hx : a.eval x = .pointer (some ad)) (cs : Array Value) (d : TypeDesc) (hg : ∀ j v, cs.toList[j]? = some v → w.cell? (ad.add j) = some v)
    (hu : P.underlying ty = some d) (hd : (match d with | .struct _ | .array _ _ => true | _ => false) = true) (hi : (P.info? ty).map (·.size) = some cs.size)
    (h : wpList P ops Q rest (a.put o.dst (.agg cs)) w) : wpList P ops Q (o :: rest) a w :=
  wpList_plain hgd fun _ hK => by
    unfold Oper.wp execOp
    simp only [ho, hx, Instr.loadAt, Instr.sureAddr, Sem.run_bind, Sem.run_pure, Result.andThen_ok, run_loadVar_cellsP w ad ty cs d hg hu hd hi]
    exact hK _ _ h
def nineF : List UInt8 := [1, 0, 0, 0, 1, 0, 0, 0, 7]
theorem nine_parts : partsL nineF = [[7]] ∧ partsE nineF = 0 := by decide +kernel
theorem frameB_small (ls : List (List UInt8)) : (frameB ls).length ≤ 67108864 := by
  unfold frameB
  cases h : frameOk ls with
  | false => simp
  | true =>
    unfold frameOk at h
    simp only [Bool.and_eq_true, decide_eq_true_eq] at h
    rw [if_pos rfl, frameL_length]; exact h.2
theorem pow_19 {i : Nat} (h : i < 20) : 67108864 * 2 ^ i ≤ 35184372088832 := by
  have : 2 ^ i ≤ 2 ^ 19 := Nat.pow_le_pow_right (by decide) (by omega)
  omega
theorem pow_20 {i : Nat} (h : i ≤ 20) : 67108864 * 2 ^ i ≤ 140737488351232 := by
  have : 2 ^ i ≤ 2 ^ 20 := Nat.pow_le_pow_right (by decide) h
  omega
set_option maxRecDepth 100000 in
set_option maxHeartbeats 4000000 in
theorem parts_walk (w : World) (ls : List (List UInt8)) (A : Option Addr) (c : Nat) (hr : Rbs w A ls) (hc : ls.length ≤ c) (hn : ls.length ≤ 5864062014634) (hl : ∀ l ∈ ls, l.length ≤ 140737488351232)
    (n : Nat) (A1 : Option Addr) (c1 : Nat) (ht : TurnsR w A1 n) (hc1 : n ≤ c1) (hn1 : n ≤ 140737488351232) (l : List UInt8) (A2 : Option Addr) (c2 : Nat) (hr2 : Rb w A2 l) (hc2 : l.length ≤ c2) (hl2 : l.length ≤ 140737488351232) :
    Calls Try.prog 10 #[.slice A ls.length c, .slice A1 n c1, .slice A2 l.length c2] w fun e w' => e = .returned (.bool true) ∧ Fr No w w' := by
  have HR := Aside0.mk hr; have HL := Aside0.mk hl; have HT := Aside0.mk ht; have HR2 := Aside0.mk hr2
  clear hr hl ht hr2
  go_enter Try.func10, Try.ntmps10
  have HL9 : Aside0 (Rb (w.alloc (.cells #[.int .u8 1, .int .u8 0, .int .u8 0, .int .u8 0, .int .u8 1, .int .u8 0, .int .u8 0, .int .u8 0, .int .u8 7] 5)) (some ⟨w.heap.size, 0, none⟩) nineF) := ⟨lit_reads w nineF (by simp [nineF])⟩
  have HF1 : Aside0 (Fr No w (w.alloc (.cells #[.int .u8 1, .int .u8 0, .int .u8 0, .int .u8 0, .int .u8 1, .int .u8 0, .int .u8 0, .int .u8 0, .int .u8 7] 5))) := ⟨(Fr.refl No w).alloc _⟩
  go_wp2_with fail
  generalize w.alloc _ = w1 at HL9 HF1 ⊢
  refine (parts_calls nineF _ 9 w1 HL9.out (by simp [nineF]) (by simp [nineF])).mono ?_
  rintro e w2 ⟨v, rfl, hm, hf⟩
  rw [nine_parts.1] at hm
  obtain ⟨X, cx, rfl, hcx, hrx⟩ := KB_reads hm
  have HF2 : Aside0 (Fr No w w2) := ⟨HF1.out.then_ hf⟩
  obtain ⟨ad, Ai, ci, rfl, hce, hci, hra⟩ := hrx.at_ 0 (by simp)
  have hce2 : w2.cell? ad = some (.slice Ai ([7] : List UInt8).length ci) := by rwa [show ad.add 0 = ad from by unfold Addr.add; cases ad; simp] at hce
  have HRA : Aside0 (Rb w2 Ai [7]) := ⟨hra⟩
  simp only [List.getElem_cons_zero, List.length_cons, List.length_nil, Nat.zero_add] at hce hce2
  rw [nine_parts.2]
  clear hm hf hrx hra hci hcx HF1 HL9
  go_wp2_with fail
  refine (numP_calls _ _).mono ?_
  rintro e w3 ⟨rfl, rfl⟩
  have HRA3 : Aside0 (Rb (w2.alloc (.cells #[.int .u8 7] 5)) Ai [7]) := ⟨C_fr HRA.out ((Fr.refl No w2).alloc _)⟩
  have HL7 : Aside0 (Rb (w2.alloc (.cells #[.int .u8 7] 5)) (some ⟨w2.heap.size, 0, none⟩) [7]) := ⟨lit_reads w2 [7] (by simp)⟩
  have HF3 : Aside0 (Fr No w (w2.alloc (.cells #[.int .u8 7] 5))) := ⟨HF2.out.alloc _⟩
  go_wp2_with fail
  clear hce hce2 HRA HF2
  generalize w2.heap.size = z2 at *
  generalize w2.alloc _ = w3 at HRA3 HL7 HF3 ⊢
  refine (same_calls [7] [7] _ _ _ _ _ HRA3.out HL7.out).mono ?_
  rintro e w4 ⟨rfl, rfl⟩
  clear HRA3 HL7
  go_wp2_with fail
  refine (parted_calls l A2 c2 w3 (C_fr HR2.out HF3.out) hc2 hl2).mono ?_
  rintro e w4 ⟨rfl, hf⟩
  have HF4 : Aside0 (Fr No w w4) := ⟨HF3.out.then_ hf⟩
  clear hf HF3
  go_wp2_with fail
  refine (refFrame_calls ls A c w4 (HR.out.fr HF4.out) HL.out).mono ?_
  rintro e w5 ⟨v, rfl, hm, hf⟩
  obtain ⟨Y, cy, rfl, hcy, hry⟩ := hm.reads
  have HY := Aside0.mk hry
  have HF5 : Aside0 (Fr No w w5) := ⟨HF4.out.then_ hf⟩
  have HBS := Aside0.mk (frameB_small ls)
  clear hm hf hry HF4
  generalize frameB ls = b at *
  generalize frameE ls = e0 at *
  go_wp2_with fail
  refine (parted_calls b Y cy w5 HY.out hcy (Nat.le_trans HBS.out (by decide))).mono ?_
  rintro e w6 ⟨rfl, hf⟩
  have HF6 : Aside0 (Fr No w w6) := ⟨HF5.out.then_ hf⟩
  have HY6 : Aside0 (Rb w6 Y b) := ⟨C_fr HY.out hf⟩
  clear hf HF5 HY
  go_wp2_with fail
  go_loopw [9, 11] (fun v i wr => ∃ (j : Nat) (X : Option Addr) (m : List UInt8) (cx : Nat), j ≤ n ∧ j ≤ 20 ∧ i = .int .i64 j ∧ v = .slice X m.length cx ∧ m.length ≤ cx ∧ Aside0 (m.length ≤ 67108864 * 2 ^ j) ∧ Aside0 (Rb wr X m) ∧ Aside0 (Fr No w wr)) (fun _ i _ => n - (intOf i).toNat)
  case atStart => exact ⟨0, Y, b, cy, by omega, by omega, rfl, rfl, hcy, ⟨by simpa using HBS.out⟩, HY6, HF6⟩
  case round =>
    clear HY6 HF6 HBS hcy
    obtain ⟨j, X2, m, cx2, hj, hj20, rfl, rfl, hmc, HML, HM, HF⟩ := hrel
    by_cases hgo : j < n ∧ j < 20
    · obtain ⟨hj1, hj2⟩ := hgo
      obtain ⟨td, hA1, htc⟩ := HT.out.fr HF.out (by omega)
      subst hA1
      obtain ⟨k0, a0, v0, t0, t1, t2⟩ := htc j hj1
      have htg : ∀ i u, (#[Value.int .i64 k0, .int .i64 a0, .int .i64 v0] : Array Value).toList[i]? = some u → wr.cell? ((td.add (j * 3)).add i) = some u := fun i u hu => by
        rw [Go.Deep.add_add]
        match i with
        | 0 => obtain rfl : Value.int .i64 k0 = u := by simpa using hu
               exact t0
        | 1 => obtain rfl : Value.int .i64 a0 = u := by simpa using hu
               exact t1
        | 2 => obtain rfl : Value.int .i64 v0 = u := by simpa using hu
               exact t2
        | i + 3 => simp at hu
      have HTG := Aside0.mk htg
      clear htg htc t0 t1 t2
      have hji : (j : Int) < (n : Int) := by omega
      have hji2 : (j : Int) < 20 := by omega
      go_wp2_with (refine wpList_load_cellsP rfl _ _ rfl (td.add (j * 3)) rfl #[.int .i64 k0, .int .i64 a0, .int .i64 v0] _ HTG.out Try.underlying46 rfl rfl ?_)
      refine (turned_calls m k0 a0 v0 X2 cx2 wr HM.out (Nat.le_trans HML.out (pow_19 hj2))).mono ?_
      rintro e w7 ⟨v, m2, rfl, hm, hml, hf⟩
      obtain ⟨Z, cz, rfl, hcz, hrz⟩ := hm.reads
      have HM7 := Aside0.mk hrz
      have HF7 : Aside0 (Fr No w w7) := ⟨HF.out.then_ hf⟩
      have HML7 : Aside0 (m2.length ≤ 67108864 * 2 ^ (j + 1)) := ⟨by have := HML.out; rw [Nat.pow_succ]; omega⟩
      clear hm hf hrz hml HM HF HML hmc
      go_wp2_with fail
      refine (parted_calls m2 Z cz w7 HM7.out hcz (Nat.le_trans HML7.out (pow_20 (by omega)))).mono ?_
      rintro e w8 ⟨rfl, hf⟩
      have HF8 : Aside0 (Fr No w w8) := ⟨HF7.out.then_ hf⟩
      have HM8 : Aside0 (Rb w8 Z m2) := ⟨C_fr HM7.out hf⟩
      clear hf HF7 HM7
      go_wp2_with fail
      exact ⟨⟨j + 1, Z, m2, cz, by omega, by omega, by go_num, rfl, hcz, HML7, HM8, HF8⟩, by simp [intOf]; omega⟩
    · by_cases hj1 : j < n
      · have hj2 : ¬ ((j : Int) < 20) := by omega
        go_wp2_with fail
        go_ret
        exact ⟨rfl, HF.out⟩
      · have hj2 : ¬ ((j : Int) < (n : Int)) := by omega
        go_wp2_with fail
        go_ret
        exact ⟨rfl, HF.out⟩
end Go.Proofs.Ytbaeddppihjgfaa.Sg
