/- The walks of roomy, kept and flipped: a list in memory of its own with six marked bytes behind it. -/
import Derived.Test.YtbaeddppihjgfaaProg
import Derived.KernelRfl
import Derived.Deep.QuietTactic
import Derived.BigQuiet
import Derived.Deep.LoopGhost
import Derived.WalkLawsBesides
import Derived.WalkSpells
import Derived.Test.YtbaeddppihjgfaaBase
namespace Go.Proofs.Ytbaeddppihjgfaa.Sg
open Go Go.RowKit Go.Proofs.YtbaeddppihjgfaaW.PrintWords
set_option linter.unusedVariables false
theorem infoU8 : (Try.prog.info? 5).map (fun i => (i.zero, i.size, i.bytes)) = some (some (.int .u8 0), 1, 1) := by kernel_rfl
def six : List Int := [171, 171, 171, 171, 171, 171]
/-- What roomy hands out. -/
def Room (w : World) (g : Nat) (l : List UInt8) : Prop := Blk w g (bi l ++ six)
/-- The list, its room marked up to place k. -/
def marked (xs : List Int) (k : Nat) : List Int := xs ++ (List.replicate (k - xs.length) 171 ++ List.replicate (xs.length + 6 - k) 0)
theorem marked_length (xs : List Int) (k : Nat) (h0 : xs.length ≤ k) (h1 : k ≤ xs.length + 6) : (marked xs k).length = xs.length + 6 := by
  simp [marked]; omega
theorem marked_all (xs : List Int) : marked xs (xs.length + 6) = xs ++ six := by simp [marked, six]
theorem marked_set (xs : List Int) (k : Nat) (h0 : xs.length ≤ k) (h1 : k < xs.length + 6) : (marked xs k).set k 171 = marked xs (k + 1) := by
  unfold marked
  rw [List.set_append_right _ _ h0, show k + 1 - xs.length = (k - xs.length) + 1 by omega, show xs.length + 6 - k = (xs.length + 6 - (k + 1)) + 1 by omega]
  generalize k - xs.length = a
  generalize xs.length + 6 - (k + 1) = b
  congr 1
  rw [List.set_append_right _ _ (by simp)]
  rw [List.replicate_succ' (n := a)]
  simp [List.replicate_succ]
theorem splice_six (l : List UInt8) : splice (nums .u8 (List.replicate (l.length + 6) 0)) 0 (nums .u8 (bi l)) = nums .u8 (marked (bi l) l.length) := by
  simp [splice, marked, nums, bi]
attribute [local go_sem] u_wrap u_wrap' i_wrap i_wrap2
theorem own_madeBlk (w : World) (m : Nat) : Blk (w.alloc (.cells (madeCells #[.int .u8 0] m) 5)) w.heap.size (List.replicate m 0) := by
  have hl : (madeCells #[Value.int .u8 0] m) = (nums .u8 (List.replicate m 0)).toArray := by
    apply Array.ext
    · simp [nums, madeCells]
    · intro i h1 h2
      simp [nums, madeCells, Nat.mod_one]
  unfold Blk
  rw [hl]
  exact heap_alloc_new w _
set_option maxHeartbeats 1000000 in
theorem roomy_calls (l : List UInt8) (A : Option Addr) (c : Nat) (w : World) (hr : Rb w A l) (hl : l.length ≤ 140737488351232) :
    Calls Try.prog 19 #[.slice A l.length c] w fun e w' => ∃ g, e = .returned (.slice (some ⟨g, 0, none⟩) l.length (l.length + 6)) ∧ w.heap.size ≤ g ∧ Room w' g l ∧ Fr No w w' := by
  have HR := Aside0.mk hr
  clear hr
  have hmk := print_make (P := Try.prog) 25 5 .u8 1 Try.underlying25 infoU8 (by decide) (l.length + 6) (by omega)
  have ec : ((l.length + 6 : Nat) : Int) = (l.length : Int) + 6 := by omega
  rw [ec] at hmk
  clear ec
  go_enter Try.func19, Try.ntmps19
  have H1 : Aside0 ((w.alloc (.cells (madeCells #[.int .u8 0] (l.length + 6)) 5)).heap[w.heap.size]? = some (.cells (nums .u8 (List.replicate (l.length + 6) 0)).toArray 5 (0, 0))) := ⟨own_madeBlk w (l.length + 6)⟩
  have H2 : Aside0 (Below w.heap.size w (w.alloc (.cells (madeCells #[.int .u8 0] (l.length + 6)) 5))) := ⟨below_alloc (Below.refl _ _) _⟩
  have H3 : Aside0 (0 < (nums .u8 (bi l)).length → (some (⟨w.heap.size, 0, none⟩ : Addr)) = some ⟨w.heap.size, 0, none⟩ ∧ ∃ ad, A = some ad ∧ ∀ j v, (nums .u8 (bi l))[j]? = some v → (w.alloc (.cells (madeCells #[.int .u8 0] (l.length + 6)) 5)).cell? (ad.add j) = some v) := ⟨fun hp => by
    obtain ⟨ad, hA, hc⟩ := C_cells (xs := bi l) (by rw [bi_length]; exact Kd.C_below HR.out H2.out) (by simpa [nums] using hp)
    exact ⟨rfl, ad, hA, hc⟩⟩
  go_wp2_with (with_reducible refine wpList_copy_splice rfl (.tmp 9) (.tmp 10) 25 25 rfl 5 Try.underlying25 (by kernel_rfl) _ _ _ _ _ _ rfl rfl w.heap.size 0 (nums .u8 (List.replicate (l.length + 6) 0)) 5 H1.out (nums .u8 (bi l)) ?hn H3.out ?hfit ?h1 w.heap.size w H2.out (Nat.le_refl _) ?_)
  case hn => simp [nums, bi]
  case hfit => simp [nums, bi]
  case h1 => intro v hv; simp only [nums, List.mem_map] at hv; obtain ⟨x, _, rfl⟩ := hv; rfl
  intro w1 hB1 hbel
  have hB2 : Blk w1 w.heap.size (marked (bi l) l.length) := by
    have := hB1.out
    rw [splice_six] at this
    exact this
  have hF : Fr No w w1 := Fr.of_below hbel
  have HB := Aside0.mk hB2; have HF := Aside0.mk hF
  clear hB1 hbel hB2 hF H1 H2 H3 HR hmk
  go_wp2
  go_loopw [4] (fun i wr => ∃ k : Nat, l.length ≤ k ∧ k ≤ l.length + 6 ∧ i = .int .i64 k ∧ Aside0 (Blk wr w.heap.size (marked (bi l) k)) ∧ Aside0 (Fr No w wr)) (fun i _ => l.length + 6 - (intOf i).toNat)
  case atStart => exact ⟨l.length, Nat.le_refl _, by omega, rfl, HB, HF⟩
  case round =>
    obtain ⟨k, hk0, hk1, rfl, HB2, HF2⟩ := hrel
    by_cases hlt : k < l.length + 6
    · have hcell := HB2.out.cell k (by rw [marked_length _ _ (by rw [bi_length]; omega) (by rw [bi_length]; omega), bi_length]; omega)
      have hfree := HB2.out.free k
      have HS := Aside0.mk (HB2.out.set k 171)
      go_wp2
      go_roundw
      case rel => exact ⟨k + 1, by omega, by omega, by go_num, ⟨by rw [← marked_set _ k (by rw [bi_length]; omega) (by rw [bi_length]; omega)]; exact HS.out⟩, ⟨HF2.out.setCell (.inr (Nat.le_refl _)) _⟩⟩
      case measure => simp [intOf]; omega
    · obtain rfl : k = l.length + 6 := by omega
      have hfin : marked (bi l) (l.length + 6) = bi l ++ six := by rw [← bi_length]; exact marked_all _
      have HR2 : Aside0 (Room _ w.heap.size l) := ⟨by unfold Room; rw [← hfin]; exact HB2.out⟩
      clear hfin
      go_wp2
      go_ret
      exact ⟨w.heap.size, by rfl, Nat.le_refl _, HR2.out, HF2.out⟩
theorem six_at (l : List UInt8) (k : Nat) (h0 : l.length ≤ k) (h1 : k < (bi l ++ six).length) : (bi l ++ six)[k] = 171 := by
  rw [List.getElem_append_right (by rw [bi_length]; exact h0)]
  have hz : ∀ j (hj : j < six.length), six[j] = 171 := by decide
  exact hz _ _
theorem flip_set (l : List UInt8) (k : Nat) (hk : k < l.length) (f : UInt8 → UInt8) : (bi ((l.take k).map f ++ l.drop k) ++ six).set k ((f l[k]).toNat : Int) = bi ((l.take (k + 1)).map f ++ l.drop (k + 1)) ++ six := by
  have h1 : k < (bi ((l.take k).map f ++ l.drop k)).length := by simp [bi]; omega
  rw [List.set_append_left _ _ h1]
  congr 1
  unfold bi
  rw [← List.map_set]
  congr 1
  have hl : ((l.take k).map f).length = k := by simp; omega
  rw [List.set_append_right _ _ (by rw [hl]; exact Nat.le_refl _), hl, Nat.sub_self, List.drop_eq_getElem_cons hk, List.set_cons_zero, List.take_succ_eq_append_getElem hk]
  simp only [List.map_append, List.map_cons, List.map_nil, List.append_assoc, List.singleton_append]
theorem Room.le {w : World} {g : Nat} {l : List UInt8} (h : Room w g l) (hl : l.length ≤ 140737488351232) : Rb w (some ⟨g, 0, none⟩) l := by
  have := h.reads (by simp [bi_length, six, maxLen]; omega)
  unfold Rb
  rwa [bi_length] at this
set_option maxHeartbeats 1000000 in
theorem same_calls (a b : List UInt8) (A B : Option Addr) (c d : Nat) (w : World) (ha : Rb w A a) (hb : Rb w B b) :
    Calls Try.prog 14 #[.slice A a.length c, .slice B b.length d] w fun e w' => e = .returned (.bool (decide (a = b))) ∧ w = w' := by
  have h1 := Kd.C_string (P := Try.prog) (c := c) Try.underlying25 Try.underlying5 Try.underlying9 ha
  have h2 := Kd.C_string (P := Try.prog) (c := d) Try.underlying25 Try.underlying5 Try.underlying9 hb
  have he := beq_str a b
  clear ha hb
  go_enter Try.func14, Try.ntmps14
  go_wp2
  go_ret
  exact ⟨rfl, rfl⟩
set_option maxHeartbeats 1000000 in
theorem kept_calls (l : List UInt8) (g : Nat) (A : Option Addr) (c : Nat) (w : World) (hm : Room w g l) (hr : Rb w A l) (hl : l.length ≤ 140737488351232) :
    Calls Try.prog 24 #[.slice (some ⟨g, 0, none⟩) l.length (l.length + 6), .slice A l.length c] w fun e w' => e = .returned (.bool true) ∧ w = w' := by
  have HM := Aside0.mk hm
  have HR := Aside0.mk hr
  clear hm hr
  go_enter Try.func24, Try.ntmps24
  go_wp2
  go_loop [6] (fun i => ∃ k : Nat, l.length ≤ k ∧ k ≤ l.length + 6 ∧ i = .int .i64 k) (fun i => l.length + 6 - (intOf i).toNat)
  case atStart => exact ⟨l.length, Nat.le_refl _, by omega, rfl⟩
  case round =>
    obtain ⟨k, hk0, hk1, rfl⟩ := hrel
    by_cases hlt : k < l.length + 6
    · have hcell := HM.out.cell k (by rw [List.length_append, bi_length]; exact hlt)
      rw [six_at l k hk0] at hcell
      go_wp2
      go_round
      case rel => exact ⟨k + 1, by omega, by omega, by go_num⟩
      case measure => simp [intOf]; omega
    · obtain rfl : k = l.length + 6 := by omega
      have HR2 := Aside0.mk (HM.out.le hl)
      go_wp2_with (go_at_call 14; refine (same_calls l l _ _ _ _ _ HR2.out HR.out).mono ?_; rintro e w' ⟨rfl, rfl⟩)
      go_ret
      exact ⟨congrArg (fun b => Ending.returned (.bool b)) (by simp), rfl⟩
theorem Room.blk {w : World} {g : Nat} {l : List UInt8} (h : Room w g l) : Blk w g (bi l ++ six) := h
theorem own_empty (w : World) : Kd.R (Kd.int .u8) 5 (w.alloc (.cells #[] 5)) w.heap.size (fun _ => True) (.slice (some ⟨w.heap.size, 0, none⟩) 0 0) [] :=
  Kd.R_of_own (enc := Value.int .u8) (by simpa [encs] using World.ownsRow_lit (base := w.heap.size) (e := 5) (size := 1) w #[] 0 (Nat.le_refl _) (by simp [maxLen]) rfl) (fun _ _ => trivial)
/-- Each byte another one. -/
def flip1 (b : UInt8) : UInt8 := b ^^^ 1
theorem flip1_num (b : UInt8) : bits .xor .u8 (un (b2w b)) 1 = ((flip1 b).toNat : Int) := by
  rw [un_b2w]
  have h : ∀ n : Fin 256, bits .xor .u8 (n.val : Int) 1 = ((flip1 (UInt8.ofNat n.val)).toNat : Int) := by decide +kernel
  have := h ⟨b.toNat, b.toNat_lt⟩
  simpa using this
set_option maxHeartbeats 1000000 in
theorem flipped_calls (l : List UInt8) (g : Nat) (w : World) (hm : Room w g l) (hl : l.length ≤ 140737488351232) :
    Calls Try.prog 30 #[.slice (some ⟨g, 0, none⟩) l.length (l.length + 6)] w fun e w' => ∃ v, e = .returned v ∧ Kd.R (Kd.int .u8) 5 w' w.heap.size (fun _ => True) v (bi (l.map flip1)) ∧ Room w' g (l.map flip1) ∧ Fr (fun k => k = g) w w' := by
  have HM := Aside0.mk hm
  clear hm
  go_enter Try.func30, Try.ntmps30
  go_wp2
  go_loopw [3] (fun i wr => ∃ k : Nat, k ≤ l.length ∧ i = .int .i64 k ∧ Aside0 (Blk wr g (bi ((l.take k).map flip1 ++ l.drop k) ++ six)) ∧ Aside0 (Fr (fun k => k = g) w wr)) (fun i _ => l.length - (intOf i).toNat)
  case atStart => exact ⟨0, by omega, rfl, ⟨HM.out.blk⟩, ⟨Fr.refl _ _⟩⟩
  case round =>
    obtain ⟨k, hk, rfl, HB, HF⟩ := hrel
    by_cases hlt : k < l.length
    · have hcell := HB.out.cell k (by simp [bi, six]; omega)
      have hval : (bi ((l.take k).map flip1 ++ l.drop k) ++ six)[k]'(by simp [bi, six]; omega) = un (b2w l[k]) := by
        rw [un_b2w, List.getElem_append_left (by simp [bi]; omega)]
        simp [bi, hk]
      rw [hval] at hcell
      clear hval
      have hx := flip1_num l[k]
      have hfree := HB.out.free k
      have HS := Aside0.mk (HB.out.set k ((flip1 l[k]).toNat : Int))
      go_wp2
      go_roundw
      case rel => exact ⟨k + 1, by omega, by go_num, ⟨by rw [flip_set l k hlt] at HS; exact HS.out⟩, ⟨HF.out.setCell (.inl rfl) _⟩⟩
      case measure => simp [intOf]; omega
    · obtain rfl : k = l.length := by omega
      have hall : (l.take l.length).map flip1 ++ l.drop l.length = l.map flip1 := by simp
      rw [hall] at HB
      clear hall
      have HB1 : Aside0 (Room (wr.alloc (.cells #[] 5)) g (l.map flip1)) := ⟨HB.out.alloc _⟩
      have HR : Aside0 (Kd.C (Kd.int .u8) (wr.alloc (.cells #[] 5)) (some ⟨g, 0, none⟩) l.length (bi (l.map flip1))) := ⟨by
        have := HB1.out.le (by simpa using hl)
        unfold Rb at this
        rwa [List.length_map] at this⟩
      have HO := Aside0.mk (own_empty wr)
      go_wp2_with (at_builtin; refine Kd.R_append_row (Value.int .u8) 0 (w0 := wr.alloc (.cells #[] 5)) wr.heap.size rfl (.tmp 18) (.tmp 19) 25 5 (.int .u8 0) 1 rfl Try.underlying25 infoU8 rfl (by decide) _ [] (bi (l.map flip1)) _ _ _ (fun _ => True) rfl rfl (fun _ _ => trivial) HO.out HR.out (Below.refl _ _) ?hb ?hl ?_)
      case hb => simp
      case hl => simp; omega
      intro v1 w1 ho hb hg hat
      have hF0 := Fr.of_grown hg
      have hF1 : Fr (fun k => k = g) w w1 := (HF.out.alloc _).trans hF0 (fun k hk => .inr (by subst hk; exact HF.out.size))
      have HM2 : Aside0 (Room w1 g (l.map flip1)) := ⟨HB1.out.blk.fr hF0 (by have := HB.out.lt; omega)⟩
      have HF2 := Aside0.mk hF1
      have HO2 : Aside0 (Kd.R (Kd.int .u8) 5 w1 w.heap.size (fun _ => True) v1 (bi (l.map flip1))) := ⟨Kd.R_lower ho HF.out.size⟩
      clear ho hb hg hat hF1 hF0
      go_wp2
      go_ret
      exact ⟨v1, by rfl, HO2.out, HM2.out, HF2.out⟩
end Go.Proofs.Ytbaeddppihjgfaa.Sg
