/- How an argument of steps reads: two whole numbers and a list of bytes each; all together of bounded bulk. -/
import Derived.Deep.SlicePairs
import Derived.Test.YtbaeddppihjgfaaDoorOpenRows
namespace Go.Proofs.YtbaeddppihjgfaaDoor.Sg
open Go Go.RowKit Go.ChangeShapes Go.WideShapes Go.ChangeAt Go.Proofs.YtbaeddppihjgfaaDoorW.PrintWords
set_option linter.unusedVariables false
abbrev SL := List (Int × Int × List UInt8)
def stepsBulk (ss : SL) : Nat := (ss.map fun s => s.2.2.length + 1).sum
theorem stepsBulk_append (a b : SL) : stepsBulk (a ++ b) = stepsBulk a + stepsBulk b := by simp [stepsBulk]
theorem stepsBulk_length (ss : SL) : ss.length ≤ stepsBulk ss := by
  induction ss with
  | nil => simp [stepsBulk]
  | cons s ss ih => simp only [stepsBulk, List.map_cons, List.sum_cons, List.length_cons] at *; omega
/-- Rows of two whole numbers and a list each. -/
def StepsR (w : World) (A : Option Addr) (ss : SL) : Prop := 0 < ss.length → ∃ ad, A = some ad ∧ ∀ i (hi : i < ss.length), ∃ Di ci, w.cell? (ad.add (i * 3)) = some (.int .i64 ss[i].1) ∧ w.cell? (ad.add (i * 3 + 1)) = some (.int .i64 ss[i].2.1) ∧ w.cell? (ad.add (i * 3 + 2)) = some (.slice Di ss[i].2.2.length ci) ∧ ss[i].2.2.length ≤ ci ∧ Rb w Di ss[i].2.2
theorem StepsR.fr {w w' : World} {A : Option Addr} {ss : SL} (h : StepsR w A ss) (hf : Fr No w w') : StepsR w' A ss := fun hn => by
  obtain ⟨ad, e, hc⟩ := h hn
  refine ⟨ad, e, fun i hi => ?_⟩
  obtain ⟨Di, ci, h0, h1, h2, h3, h4⟩ := hc i hi
  exact ⟨Di, ci, hf.cell h0 id, hf.cell h1 id, hf.cell h2 id, h3, C_fr h4 hf⟩
theorem bulkAll_append {H : Type} (a b : List (DataW H)) : Rows.uptoBulkAll (a ++ b) = Rows.uptoBulkAll a + Rows.uptoBulkAll b := by
  induction a with
  | nil => simp [Rows.uptoBulkAll]
  | cons x a ih => simp only [List.cons_append, Rows.uptoBulkAll, ih]; omega
theorem steps_bulk {H : Type} (D : Nat → DataW H) (f : Nat → Int × Int × List UInt8) (n : Nat) (h : ∀ r, r < n → (f r).2.2.length + 1 ≤ Rows.uptoBulk (D r)) : stepsBulk ((List.range n).map f) ≤ Rows.uptoBulkAll ((List.range n).map D) := by
  induction n with
  | zero => simp [stepsBulk]
  | succ n ih =>
    rw [List.range_succ, List.map_append, List.map_append, stepsBulk_append, bulkAll_append]
    have h1 := ih (fun r hr => h r (by omega))
    have h2 := h n (by omega)
    simp only [List.map_cons, List.map_nil, stepsBulk, List.sum_cons, List.sum_nil, Rows.uptoBulkAll] at *
    omega
/-- A list of bytes inside: its value, its bytes, its bulk. -/
theorem inner_bytes {H : Type} {enc : TypeId × Value → H} {W : World} {fuel : Nat} {v : Value} {y : DataW H × List MemPlace} (h : DataW.trod enc Tryd.prog W 0 (fun _ => true) true fuel 22 [v] = some y) :
    ∃ (A : Option Addr) (l : List UInt8) (c : Nat), v = .slice A l.length c ∧ l.length ≤ c ∧ Rb W A l ∧ l.length ≤ Rows.uptoBulk y.1 := by
  rcases open_ints Tryd.underlying22 Tryd.underlying5 (by kernel_rfl) h with ⟨hcs, rfl⟩ | ⟨x, l, c, zs, hcs, _, hl, hm, hz, rfl, hcell, hwz⟩
  · obtain rfl : v = .slice none 0 0 := by simpa using hcs
    exact ⟨none, [], 0, rfl, by simp, ⟨rfl, by simp, fun h => absurd h (by simp)⟩, by simp⟩
  · obtain rfl : v = .slice (some x) l c := by simpa using hcs
    simp only [if_true] at hz
    obtain ⟨bs, hbs⟩ := bytes_of_nums (xs := zs.take l) (fun z hz => wf_byte (hwz z (List.mem_of_mem_take hz)))
    have hlen : bs.length = l := by rw [← bi_length, ← hbs, List.length_take]; omega
    subst hlen
    unfold maxLen at hm
    refine ⟨some x, bs, c, rfl, hl, Rb_of_nums hbs (by omega) hl (fun h => by cases h) (fun a ha j hj => ?_), ?_⟩
    · obtain rfl := Option.some.inj ha
      exact hcell j (by omega)
    · have := length_le (lits (H := H) .u8 (zs.take bs.length))
      simp only [lits, List.length_map, List.length_take] at this
      simp only [Rows.uptoBulk]
      have h2 : bs.length ≤ Rows.uptoBulkAll (lits (H := H) .u8 (zs.take bs.length)) := by simp only [lits]; omega
      omega
set_option maxRecDepth 100000 in
theorem open_steps {H : Type} {enc : TypeId × Value → H} {W : World} {base : Nat} {v : Value} {d : DataW H} {ps : List MemPlace} {ts : List TypeId} {ds : List (DataW H)}
    (hok : Value.okWide Tryd.prog W .any base 30 v) (hsz : (DataW.weightsEach Tryd.prog ts ds).all (· ≤ reachBytes) = true) {j : Nat} (ht : ts[j]? = some 30) (hd : ds[j]? = some d)
    (h : DataW.Trod enc Tryd.prog W 0 (fun _ => true) true 30 v d ps) : ∃ (A : Option Addr) (ss : SL) (c : Nat), v = .slice A ss.length c ∧ StepsR W A ss ∧ ss.length ≤ c ∧ stepsBulk ss ≤ Rows.uptoBulk d := by
  obtain ⟨a0, len0, cap0, rfl⟩ := okWide_slice Tryd.underlying30 hok
  obtain ⟨fuel, hf⟩ := h
  rcases Go.Deep.open_slice Tryd.underlying30 hf with ⟨hcs, _⟩ | ⟨a, len, cap, m, n, D, Pl, hcs, _, hl, hm, hmm, hx, hel⟩
  · simp [Value.cells] at hcs
    obtain ⟨rfl, rfl, rfl⟩ := hcs
    exact ⟨none, [], 0, rfl, fun hn => by simp at hn, by simp, by simp [stepsBulk]⟩
  · simp [Value.cells] at hcs
    obtain ⟨rfl, rfl, rfl⟩ := hcs
    obtain ⟨hx, _⟩ := Prod.mk.inj hx
    subst hx
    simp only [if_true] at hmm
    have hce : (Tryd.prog).cellsOf 36 = 3 := by kernel_rfl
    have hcI : (Tryd.prog).cellsOf 3 = 1 := by kernel_rfl
    have hcB : (Tryd.prog).cellsOf 22 = 1 := by kernel_rfl
    have each : ∀ i, i < len0 → ∃ s : Int × Int × List UInt8, (∃ Di ci, W.cell? (a.add (i * 3)) = some (.int .i64 s.1) ∧ W.cell? (a.add (i * 3 + 1)) = some (.int .i64 s.2.1) ∧ W.cell? (a.add (i * 3 + 2)) = some (.slice Di s.2.2.length ci) ∧ s.2.2.length ≤ ci ∧ Rb W Di s.2.2) ∧ s.2.2.length + 1 ≤ Rows.uptoBulk (D i) := fun i hi => by
      obtain ⟨cs', h1, h2⟩ := hel i (by omega)
      rw [hce] at h1
      obtain ⟨_, hlen, hcell⟩ := World.cells?_some h1
      obtain ⟨xs, k, hk, hxy, _, hxl, hff⟩ := DataW.trod_struct Tryd.underlying36 h2
      match xs, hxl, cs', hlen with
      | [y0, y1, y2], _, [v0, v1, v2], _ =>
        have g0 := hff 0 _ rfl
        have g1 := hff 1 _ rfl
        have g2 := hff 2 _ rfl
        simp [hcI, hcB] at g0 g1 g2
        obtain ⟨k0, r0, _⟩ := DataW.trod_int Tryd.underlying3 g0
        obtain ⟨k1, r1, _⟩ := DataW.trod_int Tryd.underlying3 g1
        obtain ⟨Di, l, ci, r2, hlc, hrb, hbu⟩ := inner_bytes g2
        have e0 := hcell 0 (by omega)
        have e1 := hcell 1 (by omega)
        have e2 := hcell 2 (by omega)
        rw [Go.Deep.add_add] at e0 e1 e2
        obtain rfl : v0 = .int .i64 k0 := by simpa using r0
        obtain rfl : v1 = .int .i64 k1 := by simpa using r1
        subst r2
        refine ⟨(k0, k1, l), ⟨Di, ci, by simpa using e0, by simpa using e1, by simpa using e2, hlc, hrb⟩, ?_⟩
        have hDi : D i = .agg [y0.1, y1.1, y2.1] := by
          have := (Prod.mk.inj hxy).1
          simpa using this
        rw [hDi]
        simp only [Rows.uptoBulk, Rows.uptoBulkAll]
        omega
    obtain ⟨f, hf2⟩ := Go.Deep.choose_lt each
    refine ⟨some a, (List.range len0).map f, cap0, by simp, fun _ => ⟨a, rfl, fun i hi => ?_⟩, by simpa using hl, ?_⟩
    · have hi2 : i < len0 := by simpa using hi
      simp only [List.getElem_map, List.getElem_range]
      exact (hf2 i hi2).1
    · have := steps_bulk D f len0 (fun r hr => (hf2 r hr).2)
      simp only [Rows.uptoBulk]
      omega
end Go.Proofs.YtbaeddppihjgfaaDoor.Sg
