/- The walks of a Hash: New, Add, Fork, Sum. -/
import Derived.Test.YtbaeddppihjgfaaDoorRoom
import Derived.Deep.RegionWith
import Derived.Test.YtbaeddppihjgfaaDoorShaWords
namespace Go.Proofs.YtbaeddppihjgfaaDoor.Sg
open Go Go.RowKit Go.Proofs.YtbaeddppihjgfaaDoorW.PrintWords
set_option linter.unusedVariables false
attribute [local go_sem] u_signed u_xor u_and u_or u_add u_add' u_not u_div8 u_div1024 u_wrap u_wrap'
def hashA (s : S8) (n : Int) (rv : Value) : Array Value := #[.int .u32 (un s.a), .int .u32 (un s.b), .int .u32 (un s.c), .int .u32 (un s.d), .int .u32 (un s.e), .int .u32 (un s.f), .int .u32 (un s.g), .int .u32 (un s.h), .int .i64 n, rv]
def HashIs (w : World) (H : Nat) (s : S8) (n : Int) (rv : Value) : Prop := w.heap[H]? = some (.cells (hashA s n rv) 86 (0, 0))
def FirstAt (w : World) : Prop := ∀ j, j < 8 → w.cell? ⟨1, j, none⟩ = some (.int .u32 (un (firstL.getD j 0)))
structure HashOf (w : World) (H : Nat) (l : List UInt8) (rv : Value) : Prop where
  blk : HashIs w H (absorb S8.init l) l.length rv
  rest : Mine w 0 rv (bi (tailOf l))
  ne : rv.ownBlock ≠ some H
theorem HashIs.fr {S : Nat → Prop} {w w1 : World} {H : Nat} {s : S8} {n : Int} {rv : Value} (h : HashIs w H s n rv) (hf : Fr S w w1) (hn : ¬ S H) : HashIs w1 H s n rv := hf.heap h hn
theorem HashIs.lt {w : World} {H : Nat} {s : S8} {n : Int} {rv : Value} (h : HashIs w H s n rv) : H < w.heap.size := (Array.getElem?_eq_some_iff.1 h).1
theorem HashOf.fr {S : Nat → Prop} {w w1 : World} {H : Nat} {l : List UInt8} {rv : Value} (h : HashOf w H l rv) (hf : Fr S w w1) (hn : ¬ S H) (hr : ∀ k, rv.ownBlock = some k → ¬ S k) : HashOf w1 H l rv :=
  ⟨h.blk.fr hf hn, h.rest.fr hf hr, h.ne⟩
theorem absorb_nil (s : S8) : absorb s [] = s := absorb_short s [] (by simp)
theorem tailOf_nil : tailOf [] = [] := rfl
/-- A row's append, whatever its base. -/
theorem app_rowG {P : Program} {ops : Array Oper} {rest : List Oper} {o : Oper} {a : Act} {Q : Exit → Act → World → Prop} {W : World} (hgd : o.guard = none) (s x : Operand) (t : TypeId)
    (ho : o.op = .call { callee := .builtin .append, args := #[s, x], argTypes := #[t, t] }) (ht : P.underlying t = some (.slice 5))
    (hinfo : (P.info? 5).map (fun i => (i.zero, i.size, i.bytes)) = some (some (.int .u8 0), 1, 1))
    (v : Value) (xs ys : List Int) (A : Option Addr) (m c : Nat) (hs : a.eval s = v) (hx : a.eval x = .slice A m c)
    (HO : Mine W 0 v xs) (HR : Kd.C (Kd.int .u8) W A m ys) (hl : xs.length + m ≤ 140737488355328)
    (h : ∀ v1 w1, Mine w1 0 v1 (xs ++ ys) → Fr (fun k => v.ownBlock = some k) W w1 → (v1.ownBlock = v.ownBlock ∨ ∃ b, v1.ownBlock = some b ∧ W.heap.size ≤ b) → wpList P ops Q rest (a.put o.dst v1) w1) :
    wpList P ops Q (o :: rest) a W :=
  Kd.R_append_row (Value.int .u8) 0 (w0 := W) 0 hgd s x t 5 (.int .u8 0) 1 ho ht hinfo rfl (by decide) v xs ys A m c (fun _ => True) hs hx (fun _ _ => trivial) HO HR (Below.refl _ _) (Nat.zero_le _) (by omega)
    fun v1 w1 h1 _ h3 h4 => h v1 w1 h1 ((Fr.refl _ W).grown h3 (fun k hk => .inl hk)) h4
theorem app_rowG_step {P : Program} {ops : Array Oper} {o : Oper} {a : Act} {Q : Exit → Act → World → Prop} {W : World} {Kc : Act → World → Prop} (hw : Region.wanted o (yielded ops a.tmps) = true) (s x : Operand) (t : TypeId)
    (ho : o.op = .call { callee := .builtin .append, args := #[s, x], argTypes := #[t, t] }) (ht : P.underlying t = some (.slice 5))
    (hinfo : (P.info? 5).map (fun i => (i.zero, i.size, i.bytes)) = some (some (.int .u8 0), 1, 1))
    (v : Value) (xs ys : List Int) (A : Option Addr) (m c : Nat) (hs : a.eval s = v) (hx : a.eval x = .slice A m c)
    (HO : Mine W 0 v xs) (HR : Kd.C (Kd.int .u8) W A m ys) (hl : xs.length + m ≤ 140737488355328)
    (h : ∀ v1 w1, Mine w1 0 v1 (xs ++ ys) → Fr (fun k => v.ownBlock = some k) W w1 → (v1.ownBlock = v.ownBlock ∨ ∃ b, v1.ownBlock = some b ∧ W.heap.size ≤ b) → Kc (a.put o.dst v1) w1) :
    if Region.wanted o (yielded ops a.tmps) = true then Oper.wp P o a W Kc Q else Kc (a.put o.dst undef) W :=
  Kd.R_append_rows_step (Kd.int .u8) (Rr := (Kd.int .u8).K W) (w0 := W) 0 hw s x t 5 (.int .u8 0) 1 ho ht hinfo rfl (by decide) (by decide) v xs ys A m c (fun _ => True) (fun _ => False) hs hx HO HR (fun x cs h => h) (fun _ hk => hk.elim) (fun _ _ => trivial) (Below.refl _ _) (Nat.zero_le _) (by omega)
    fun v1 w1 h1 _ h3 h4 => h v1 w1 h1 ((Fr.refl _ W).grown h3 (fun k hk => .inl hk)) h4
set_option maxRecDepth 100000 in
set_option maxHeartbeats 4000000 in
theorem new_calls (w : World) (hF : FirstAt w) :
    Calls Tryd.prog 26 #[] w fun e w' => e = .returned (.pointer (some ⟨w.heap.size, 0, none⟩)) ∧ HashOf w' w.heap.size [] (.slice none 0 0) ∧ Fr No w w' := by
  have h0 : w.cell? ⟨1, 0, none⟩ = some (.int .u32 (un S8.init.a)) := hF 0 (by decide)
  have h1 : w.cell? ⟨1, 1, none⟩ = some (.int .u32 (un S8.init.b)) := hF 1 (by decide)
  have h2 : w.cell? ⟨1, 2, none⟩ = some (.int .u32 (un S8.init.c)) := hF 2 (by decide)
  have h3 : w.cell? ⟨1, 3, none⟩ = some (.int .u32 (un S8.init.d)) := hF 3 (by decide)
  have h4 : w.cell? ⟨1, 4, none⟩ = some (.int .u32 (un S8.init.e)) := hF 4 (by decide)
  have h5 : w.cell? ⟨1, 5, none⟩ = some (.int .u32 (un S8.init.f)) := hF 5 (by decide)
  have h6 : w.cell? ⟨1, 6, none⟩ = some (.int .u32 (un S8.init.g)) := hF 6 (by decide)
  have h7 : w.cell? ⟨1, 7, none⟩ = some (.int .u32 (un S8.init.h)) := hF 7 (by decide)
  clear hF
  go_enter Tryd.func26, Tryd.ntmps26
  go_wp2
  go_ret
  refine ⟨rfl, ⟨?_, Mine.nil _ _, by simp [Value.ownBlock]⟩, (Fr.refl _ _).alloc _⟩
  rw [absorb_nil]
  exact heap_alloc_new w _
set_option maxRecDepth 100000 in
set_option maxHeartbeats 4000000 in
theorem fork_calls (w : World) (H : Nat) (l : List UInt8) (rv : Value) (hH : HashOf w H l rv) :
    Calls Tryd.prog 27 #[.pointer (some ⟨H, 0, none⟩)] w fun e w' => ∃ p rv', e = .returned (.pointer (some ⟨p, 0, none⟩)) ∧ w.heap.size ≤ p ∧ HashOf w' p l rv' ∧ (∀ k, rv'.ownBlock = some k → w.heap.size ≤ k) ∧ Fr No w w' := by
  obtain ⟨RA, rc, rfl, hrc, hrd⟩ := hH.rest.reads
  have HH := Aside0.mk hH
  have HR := Aside0.mk hrd
  have hH' : w.heap[H]? = some (.cells (hashA (absorb S8.init l) l.length (.slice RA (tailOf l).length rc)) 86 (0, 0)) := hH.blk
  have HC := Aside0.mk hH'
  have HL : Aside0 (([] : List Int).length + (tailOf l).length ≤ 140737488355328) := ⟨by have := tailOf_lt l; simp only [List.length_nil]; omega⟩
  clear hrd hrc hH
  generalize hs : absorb S8.init l = s at hH'
  have c0 : w.cell? ⟨H, 0, none⟩ = some (.int .u32 (un s.a)) := by simp [World.cell?, hH', hashA]
  have c1 : w.cell? ⟨H, 1, none⟩ = some (.int .u32 (un s.b)) := by simp [World.cell?, hH', hashA]
  have c2 : w.cell? ⟨H, 2, none⟩ = some (.int .u32 (un s.c)) := by simp [World.cell?, hH', hashA]
  have c3 : w.cell? ⟨H, 3, none⟩ = some (.int .u32 (un s.d)) := by simp [World.cell?, hH', hashA]
  have c4 : w.cell? ⟨H, 4, none⟩ = some (.int .u32 (un s.e)) := by simp [World.cell?, hH', hashA]
  have c5 : w.cell? ⟨H, 5, none⟩ = some (.int .u32 (un s.f)) := by simp [World.cell?, hH', hashA]
  have c6 : w.cell? ⟨H, 6, none⟩ = some (.int .u32 (un s.g)) := by simp [World.cell?, hH', hashA]
  have c7 : w.cell? ⟨H, 7, none⟩ = some (.int .u32 (un s.h)) := by simp [World.cell?, hH', hashA]
  have c8 : w.cell? ⟨H, 8, none⟩ = some (.int .i64 l.length) := by simp [World.cell?, hH', hashA]
  have c9 : w.cell? ⟨H, 9, none⟩ = some (.slice RA (tailOf l).length rc) := by simp [World.cell?, hH', hashA]
  have HS := Aside0.mk hs
  clear hs hH'
  have HK : Aside0 (∀ w1, Fr No w w1 → w1.cell? ⟨H, 0, none⟩ = some (.int .u32 (un s.a)) ∧ w1.cell? ⟨H, 1, none⟩ = some (.int .u32 (un s.b)) ∧ w1.cell? ⟨H, 2, none⟩ = some (.int .u32 (un s.c)) ∧ w1.cell? ⟨H, 3, none⟩ = some (.int .u32 (un s.d)) ∧ w1.cell? ⟨H, 4, none⟩ = some (.int .u32 (un s.e)) ∧ w1.cell? ⟨H, 5, none⟩ = some (.int .u32 (un s.f)) ∧ w1.cell? ⟨H, 6, none⟩ = some (.int .u32 (un s.g)) ∧ w1.cell? ⟨H, 7, none⟩ = some (.int .u32 (un s.h)) ∧ w1.cell? ⟨H, 8, none⟩ = some (.int .i64 l.length) ∧ w1.cell? ⟨H, 9, none⟩ = some (.slice RA (tailOf l).length rc)) :=
    ⟨fun w1 hf => ⟨hf.cell c0 id, hf.cell c1 id, hf.cell c2 id, hf.cell c3 id, hf.cell c4 id, hf.cell c5 id, hf.cell c6 id, hf.cell c7 id, hf.cell c8 id, hf.cell c9 id⟩⟩
  go_enter Tryd.func27, Tryd.ntmps27
  go_wp2_with fail
  have HR1 : Aside0 (Rb w.drew RA (tailOf l)) := ⟨C_fr HR.out (Fr.refl No w).drew⟩
  have HF1 : Aside0 (Fr No w w.drew) := ⟨(Fr.refl No w).drew⟩
  have HM1 : Aside0 (Mine w.drew w.heap.size (.slice none 0 0) []) := ⟨Mine.nil _ _⟩
  go_region_held3 (fun w1 => w1.cell? ⟨H, 0, none⟩ = some (.int .u32 (un s.a)) ∧ w1.cell? ⟨H, 1, none⟩ = some (.int .u32 (un s.b)) ∧ w1.cell? ⟨H, 2, none⟩ = some (.int .u32 (un s.c)) ∧ w1.cell? ⟨H, 3, none⟩ = some (.int .u32 (un s.d)) ∧ w1.cell? ⟨H, 4, none⟩ = some (.int .u32 (un s.e)) ∧ w1.cell? ⟨H, 5, none⟩ = some (.int .u32 (un s.f)) ∧ w1.cell? ⟨H, 6, none⟩ = some (.int .u32 (un s.g)) ∧ w1.cell? ⟨H, 7, none⟩ = some (.int .u32 (un s.h)) ∧ w1.cell? ⟨H, 8, none⟩ = some (.int .i64 l.length) ∧ w1.cell? ⟨H, 9, none⟩ = some (.slice RA (tailOf l).length rc))
    (first | exact HK.out _ hf | exact HK.out _ HF1.out | go_keep)
    ((refine app_row_step (by rfl) (.const (.slice none 0 0)) (.tmp 14) 22 (by rfl) Tryd.underlying22 infoU8 (.slice none 0 0) [] (bi (tailOf l)) RA (tailOf l).length rc rfl rfl HM1.out HR1.out HF1.out HL.out ?_; intro v1 w1 hm hf hg; rw [List.nil_append] at hm; obtain ⟨A1, c1, rfl, hc1, hr1⟩ := hm.reads))
  all_goals
    go_wp2
    go_ret
    refine ⟨w1.heap.size, _, rfl, hf.size, ⟨?_, (hm.lower (Nat.zero_le _)).fr ((Fr.refl No w1).alloc _) (fun _ _ => id), ?_⟩, fun k hk => (hm.base k hk).1, hf.alloc _⟩
    · rw [HS.out]
      exact heap_alloc_new w1 _
    · intro h
      have := (hm.base _ h).2
      omega
section
variable {w : World} {H : Nat} {s s2 : S8} {n n2 : Int} {rv rv2 : Value}
theorem HashIs.put8 (h : HashIs w H s n rv) (n2 : Int) : HashIs (w.setCell ⟨H, 8, none⟩ (.int .i64 n2)) H s n2 rv := blk_put h 8 _ rfl
theorem HashIs.put9 (h : HashIs w H s n rv) (rv2 : Value) : HashIs (w.setCell ⟨H, 9, none⟩ rv2) H s n rv2 := blk_put h 9 _ rfl
theorem HashIs.putS (h : HashIs w H s n rv) (q : S8) : HashIs ((((((((w.setCell ⟨H, 0, none⟩ (.int .u32 (un q.a))).setCell ⟨H, 1, none⟩ (.int .u32 (un q.b))).setCell ⟨H, 2, none⟩ (.int .u32 (un q.c))).setCell ⟨H, 3, none⟩ (.int .u32 (un q.d))).setCell ⟨H, 4, none⟩ (.int .u32 (un q.e))).setCell ⟨H, 5, none⟩ (.int .u32 (un q.f))).setCell ⟨H, 6, none⟩ (.int .u32 (un q.g))).setCell ⟨H, 7, none⟩ (.int .u32 (un q.h))) H q n rv := by
  have h0 : HashIs (w.setCell ⟨H, 0, none⟩ (.int .u32 (un q.a))) H ⟨q.a, s.b, s.c, s.d, s.e, s.f, s.g, s.h⟩ n rv := blk_put h 0 _ rfl
  have h1 : HashIs ((w.setCell ⟨H, 0, none⟩ (.int .u32 (un q.a))).setCell ⟨H, 1, none⟩ (.int .u32 (un q.b))) H ⟨q.a, q.b, s.c, s.d, s.e, s.f, s.g, s.h⟩ n rv := blk_put h0 1 _ rfl
  have h2 : HashIs (((w.setCell ⟨H, 0, none⟩ (.int .u32 (un q.a))).setCell ⟨H, 1, none⟩ (.int .u32 (un q.b))).setCell ⟨H, 2, none⟩ (.int .u32 (un q.c))) H ⟨q.a, q.b, q.c, s.d, s.e, s.f, s.g, s.h⟩ n rv := blk_put h1 2 _ rfl
  have h3 : HashIs ((((w.setCell ⟨H, 0, none⟩ (.int .u32 (un q.a))).setCell ⟨H, 1, none⟩ (.int .u32 (un q.b))).setCell ⟨H, 2, none⟩ (.int .u32 (un q.c))).setCell ⟨H, 3, none⟩ (.int .u32 (un q.d))) H ⟨q.a, q.b, q.c, q.d, s.e, s.f, s.g, s.h⟩ n rv := blk_put h2 3 _ rfl
  have h4 : HashIs (((((w.setCell ⟨H, 0, none⟩ (.int .u32 (un q.a))).setCell ⟨H, 1, none⟩ (.int .u32 (un q.b))).setCell ⟨H, 2, none⟩ (.int .u32 (un q.c))).setCell ⟨H, 3, none⟩ (.int .u32 (un q.d))).setCell ⟨H, 4, none⟩ (.int .u32 (un q.e))) H ⟨q.a, q.b, q.c, q.d, q.e, s.f, s.g, s.h⟩ n rv := blk_put h3 4 _ rfl
  have h5 : HashIs ((((((w.setCell ⟨H, 0, none⟩ (.int .u32 (un q.a))).setCell ⟨H, 1, none⟩ (.int .u32 (un q.b))).setCell ⟨H, 2, none⟩ (.int .u32 (un q.c))).setCell ⟨H, 3, none⟩ (.int .u32 (un q.d))).setCell ⟨H, 4, none⟩ (.int .u32 (un q.e))).setCell ⟨H, 5, none⟩ (.int .u32 (un q.f))) H ⟨q.a, q.b, q.c, q.d, q.e, q.f, s.g, s.h⟩ n rv := blk_put h4 5 _ rfl
  have h6 : HashIs (((((((w.setCell ⟨H, 0, none⟩ (.int .u32 (un q.a))).setCell ⟨H, 1, none⟩ (.int .u32 (un q.b))).setCell ⟨H, 2, none⟩ (.int .u32 (un q.c))).setCell ⟨H, 3, none⟩ (.int .u32 (un q.d))).setCell ⟨H, 4, none⟩ (.int .u32 (un q.e))).setCell ⟨H, 5, none⟩ (.int .u32 (un q.f))).setCell ⟨H, 6, none⟩ (.int .u32 (un q.g))) H ⟨q.a, q.b, q.c, q.d, q.e, q.f, q.g, s.h⟩ n rv := blk_put h5 6 _ rfl
  have h7 : HashIs ((((((((w.setCell ⟨H, 0, none⟩ (.int .u32 (un q.a))).setCell ⟨H, 1, none⟩ (.int .u32 (un q.b))).setCell ⟨H, 2, none⟩ (.int .u32 (un q.c))).setCell ⟨H, 3, none⟩ (.int .u32 (un q.d))).setCell ⟨H, 4, none⟩ (.int .u32 (un q.e))).setCell ⟨H, 5, none⟩ (.int .u32 (un q.f))).setCell ⟨H, 6, none⟩ (.int .u32 (un q.g))).setCell ⟨H, 7, none⟩ (.int .u32 (un q.h))) H ⟨q.a, q.b, q.c, q.d, q.e, q.f, q.g, q.h⟩ n rv := blk_put h6 7 _ rfl
  exact h7
theorem HashIs.c9 (h : HashIs w H s n rv) : w.cell? ⟨H, 9, none⟩ = some rv := by
  have hb : w.heap[H]? = some (.cells (hashA s n rv) 86 (0, 0)) := h
  simp [World.cell?, hb, hashA]
theorem HashIs.c8 (h : HashIs w H s n rv) : w.cell? ⟨H, 8, none⟩ = some (.int .i64 n) := by
  have hb : w.heap[H]? = some (.cells (hashA s n rv) 86 (0, 0)) := h
  simp [World.cell?, hb, hashA]
theorem HashIs.cS (h : HashIs w H s n rv) : w.cell? ⟨H, 0, none⟩ = some (.int .u32 (un s.a)) ∧ w.cell? ⟨H, 1, none⟩ = some (.int .u32 (un s.b)) ∧ w.cell? ⟨H, 2, none⟩ = some (.int .u32 (un s.c)) ∧ w.cell? ⟨H, 3, none⟩ = some (.int .u32 (un s.d)) ∧ w.cell? ⟨H, 4, none⟩ = some (.int .u32 (un s.e)) ∧ w.cell? ⟨H, 5, none⟩ = some (.int .u32 (un s.f)) ∧ w.cell? ⟨H, 6, none⟩ = some (.int .u32 (un s.g)) ∧ w.cell? ⟨H, 7, none⟩ = some (.int .u32 (un s.h)) := by
  have hb : w.heap[H]? = some (.cells (hashA s n rv) 86 (0, 0)) := h
  simp [World.cell?, hb, hashA]
theorem HashIs.free (h : HashIs w H s n rv) (j : Nat) : w.frozen? ⟨H, j, none⟩ = false := by
  have hb : w.heap[H]? = some (.cells (hashA s n rv) 86 (0, 0)) := h
  simp [World.frozen?, hb]
end
theorem comp_append (F r : List UInt8) (h : F.length = 64) (s : S8) : absorb s (F ++ r) = absorb (comp s (blockW F)) r := by
  rw [absorb_long _ _ (by simp; omega), blockW_append _ _ (by omega), List.drop_left' h]
theorem tail_append (F r : List UInt8) (h : F.length = 64) : tailOf (F ++ r) = tailOf r := by
  rw [tailOf_long _ (by simp; omega), List.drop_left' h]
def lenOf : Value → Nat
  | .slice _ n _ => n
  | _ => 0
/-- Where Add stands when its rest has been filled up, or was none: b1 is still to come. -/
structure Going (w wx : World) (H : Nat) (rv : Value) (l b : List UInt8) (v : Value) (s1 : S8) (b1 : List UInt8) (A1 : Option Addr) (c1 : Nat) (rv1 : Value) : Prop where
  v : v = .slice A1 b1.length c1
  cap : b1.length ≤ c1
  blk : HashIs wx H s1 ((l.length : Int) + b.length) rv1
  rest : Mine wx 0 rv1 []
  ne : rv1.ownBlock ≠ some H
  own : ∀ k, rv1.ownBlock = some k → rv.ownBlock = some k ∨ w.heap.size ≤ k
  sum : absorb s1 b1 = absorb S8.init (l ++ b)
  tail : tailOf b1 = tailOf (l ++ b)
  fr : Fr (fun k => k = H ∨ rv.ownBlock = some k) w wx
  reads : ∀ w', Fr (fun k => k = H ∨ rv.ownBlock = some k) wx w' → Rb w' A1 b1
  len : b1.length ≤ b.length
theorem Fr.put8s {S : Nat → Prop} {w w4 : World} (h : Fr S w w4) {H : Nat} (hH : S H ∨ w.heap.size ≤ H) (q : S8) : Fr S w ((((((((w4.setCell ⟨H, 0, none⟩ (.int .u32 (un q.a))).setCell ⟨H, 1, none⟩ (.int .u32 (un q.b))).setCell ⟨H, 2, none⟩ (.int .u32 (un q.c))).setCell ⟨H, 3, none⟩ (.int .u32 (un q.d))).setCell ⟨H, 4, none⟩ (.int .u32 (un q.e))).setCell ⟨H, 5, none⟩ (.int .u32 (un q.f))).setCell ⟨H, 6, none⟩ (.int .u32 (un q.g))).setCell ⟨H, 7, none⟩ (.int .u32 (un q.h))) :=
  (((((((h.setCell (p := ⟨H, 0, none⟩) hH _).setCell (p := ⟨H, 1, none⟩) hH _).setCell (p := ⟨H, 2, none⟩) hH _).setCell (p := ⟨H, 3, none⟩) hH _).setCell (p := ⟨H, 4, none⟩) hH _).setCell (p := ⟨H, 5, none⟩) hH _).setCell (p := ⟨H, 6, none⟩) hH _).setCell (p := ⟨H, 7, none⟩) hH _
theorem Going.step {w wr w4 : World} {H : Nat} {rv v rv1 : Value} {l b b2 : List UInt8} {s2 : S8} {A2 : Option Addr} {c2 : Nat} (h : Going w wr H rv l b v s2 b2 A2 c2 rv1) (h64 : 64 ≤ b2.length) (hf : Fr No wr w4) (hrv : rv1.ownBlock ≠ some H)
    (q : S8) (hq : q = comp s2 (blockW b2)) : Going w ((((((((w4.setCell ⟨H, 0, none⟩ (.int .u32 (un q.a))).setCell ⟨H, 1, none⟩ (.int .u32 (un q.b))).setCell ⟨H, 2, none⟩ (.int .u32 (un q.c))).setCell ⟨H, 3, none⟩ (.int .u32 (un q.d))).setCell ⟨H, 4, none⟩ (.int .u32 (un q.e))).setCell ⟨H, 5, none⟩ (.int .u32 (un q.f))).setCell ⟨H, 6, none⟩ (.int .u32 (un q.g))).setCell ⟨H, 7, none⟩ (.int .u32 (un q.h))) H rv l b (.slice (if c2 = 64 then A2 else A2.map (·.add 64)) (b2.length - 64) (c2 - 64)) q (b2.drop 64) (if c2 = 64 then A2 else A2.map (·.add 64)) (c2 - 64) rv1 := by
  subst hq
  have hcap := h.cap
  have hstep : Fr (fun k => k = H) wr _ := (((Fr.refl (fun k => k = H) wr).then_ hf).put8s (.inl rfl) (comp s2 (blockW b2)))
  refine ⟨by rw [List.length_drop], by rw [List.length_drop]; omega, (h.blk.fr hf id).putS _, (h.rest.fr hstep (fun k hk e => hrv (by rw [hk, e]))), hrv, h.own, ?_, ?_, h.fr.trans hstep (fun k hk => .inl (.inl hk)), fun w' hw => Rb_drop (h.reads w' ((hstep.mono (fun k hk => .inl (.inl hk))).trans hw (fun k hk => .inl hk))) 64 h64 hcap, by rw [List.length_drop]; have := h.len; omega⟩
  · rw [← absorb_long _ _ h64]; exact h.sum
  · rw [← tailOf_long _ h64]; exact h.tail
theorem words_callsN (l : List UInt8) (n : Nat) (hn : l.length = n) (h64 : 64 ≤ n) (A : Option Addr) (c : Nat) (w : World) (hr : Rb w A l) :
    Calls Tryd.prog 59 #[.slice A n c] w fun e w' => e = .returned (.agg (words16 (blockW l))) ∧ Fr No w w' := by
  subst hn
  exact words_calls l h64 A c w hr
set_option maxRecDepth 100000 in
set_option maxHeartbeats 4000000 in
theorem add_calls (w : World) (H : Nat) (l : List UInt8) (rv : Value) (hH : HashOf w H l rv) (b : List UInt8) (A : Option Addr) (c : Nat) (hbc : b.length ≤ c)
    (hb : ∀ w', Fr (fun k => k = H ∨ rv.ownBlock = some k) w w' → Rb w' A b) (hlen : l.length + b.length ≤ 140737488353280) (hK : KAt w) (hKH : H ≠ 3) (hKr : rv.ownBlock ≠ some 3) :
    Calls Tryd.prog 28 #[.pointer (some ⟨H, 0, none⟩), .slice A b.length c] w fun e w' => ∃ rv', e = .returned (.tuple #[]) ∧ HashOf w' H (l ++ b) rv' ∧ (∀ k, rv'.ownBlock = some k → rv.ownBlock = some k ∨ w.heap.size ≤ k) ∧ Fr (fun k => k = H ∨ rv.ownBlock = some k) w w' := by
  obtain ⟨RA, rc, hrv, hrc, hrd⟩ := hH.rest.reads
  subst hrv
  generalize hrvv : Value.slice RA (tailOf l).length rc = rv at *
  have HV := Aside0.mk hrvv
  have HH := Aside0.mk hH
  have HR := Aside0.mk hrd
  have HB := Aside0.mk hb
  have hKA := And.intro hK (And.intro hKH hKr)
  have HKA := Aside0.mk hKA
  have c8 := hH.blk.c8
  have c9 := hH.blk.c9
  have cf := hH.blk.free
  have HLEN := Aside0.mk hlen
  have HTL := Aside0.mk (tailOf_lt l)
  rw [← hrvv] at c9
  clear hrd hH hb hKA hK hKH hKr hrvv
  go_enter Tryd.func28, Tryd.ntmps28
  go_upto_if 19 with fail
  have HBK := Aside0.mk (HH.out.blk.put8 ((l.length : Int) + b.length))
  have HF : Aside0 (Fr (fun k => k = H ∨ rv.ownBlock = some k) w (w.setCell ⟨H, 8, none⟩ (.int .i64 ((l.length : Int) + b.length)))) := ⟨(Fr.refl _ w).setCell (.inl (.inl rfl)) _⟩
  have HMW : Aside0 (Mine (w.setCell ⟨H, 8, none⟩ (.int .i64 ((l.length : Int) + b.length))) 0 rv (bi (tailOf l))) := ⟨HH.out.rest.fr ((Fr.refl (fun k => k = H) w).setCell (.inl rfl) _) (fun k hk e => HH.out.ne (by rw [hk, e]))⟩
  generalize hW : w.setCell ⟨H, 8, none⟩ (.int .i64 ((l.length : Int) + b.length)) = W at HBK HF HMW ⊢
  clear hW c8 c9 cf
  go_cut [1] (fun v1 wx => ∃ s1 b1 A1 c1 rv1, Aside0 (Going w wx H rv l b v1 s1 b1 A1 c1 rv1))
  case first =>
    by_cases h0 : tailOf l = []
    · have hz : (tailOf l).length = 0 := by rw [h0]; rfl
      have HG : Aside0 (Going w W H rv l b (.slice A b.length c) (absorb S8.init l) b A c rv) := ⟨⟨rfl, hbc, HBK.out, by
        have := HMW.out
        rw [h0] at this
        exact this, HH.out.ne, fun k hk => .inl hk, by rw [absorb_append, h0]; rfl, by rw [tailOf_append, h0]; rfl, HF.out, fun w' hf => HB.out w' (HF.out.trans hf (fun k hk => .inl hk)), Nat.le_refl _⟩⟩
      rw [hz]
      go_wp2_with fail
      go_meet
      exact ⟨_, _, _, _, _, HG⟩
    · have hpos : 0 < (tailOf l).length := List.length_pos_iff.2 h0
      obtain ⟨q, hq⟩ : ∃ q : Nat, min (64 - (tailOf l).length) b.length = q := ⟨_, rfl⟩
      have hql : q ≤ b.length := by omega
      have hqc : q ≤ c := by omega
      have c9 := HBK.out.c9
      rw [← HV.out] at c9
      go_upto_region 2 with fail
      go_cut [4] (fun v4 wx => wx = W ∧ v4 = .int .i64 q)
      case first =>
        obtain ⟨t0, ht0⟩ : ∃ t0 : Nat, 64 - (tailOf l).length = t0 := ⟨_, rfl⟩
        have ht1 : (64 : Int) - ((tailOf l).length : Int) = t0 := by have := HTL.out; omega
        by_cases h1 : t0 ≤ b.length
        · go_wp2_with fail
          go_meet
          exact ⟨rfl, by congr 1; omega⟩
        · have h1' : b.length < t0 := by omega
          go_wp2_with fail
          go_meet
          exact ⟨rfl, by congr 1; omega⟩
      obtain ⟨hwc, rfl⟩ := hcut
      rw [hwc]
      clear hwc
      have hvr := HV.out
      have HMD : Aside0 (Mine W.drew 0 (.slice RA (tailOf l).length rc) (bi (tailOf l))) := ⟨by rw [hvr]; exact HMW.out⟩
      have HRD : Aside0 (Kd.C (Kd.int .u8) W.drew A q (bi (b.take q))) := ⟨by
        have := Rb_take (HB.out W.drew HF.out.drew) q hql
        unfold Rb at this
        rw [List.length_take, Nat.min_eq_left hql] at this
        exact this⟩
      have HKP : Aside0 (∀ w1, Fr (fun k => (Value.slice RA (tailOf l).length rc).ownBlock = some k) W.drew w1 → w1.cell? ⟨H, 9, none⟩ = some (.slice RA (tailOf l).length rc) ∧ w1.frozen? ⟨H, 9, none⟩ = false) := ⟨fun w1 hf => by
        have hb := (HBK.out.fr (Fr.refl No W).drew id).fr hf (by rw [hvr]; exact HH.out.ne)
        exact ⟨by rw [hb.c9, hvr], hb.free 9⟩⟩
      have hf9 := HBK.out.free 9
      have HLL : Aside0 ((bi (tailOf l)).length + q ≤ 140737488355328) := ⟨by rw [bi_length]; have := HTL.out; omega⟩
      clear hvr
      go_wp2_with fail
      go_region_law ((refine app_rowG_step (by rfl) _ _ 22 (by rfl) Tryd.underlying22 infoU8 (.slice RA (tailOf l).length rc) (bi (tailOf l)) (bi (b.take q)) _ q _ (by rfl) (by rfl) HMD.out HRD.out HLL.out ?_; intro v1 w1 hm hf ho; rw [← bi_append] at hm; obtain ⟨A1, c1, rfl, hc1, hr1⟩ := hm.reads; obtain ⟨hk9, hz9⟩ := HKP.out _ hf))
      have HF1 : Aside0 (Fr (fun k => rv.ownBlock = some k) W w1) := ⟨by have := (Fr.refl (fun k => rv.ownBlock = some k) W).drew.trans hf (fun k hk => .inl (by rw [← HV.out]; exact hk)); exact this⟩
      have HB1 : Aside0 (HashIs w1 H (absorb S8.init l) ((l.length : Int) + b.length) rv) := ⟨HBK.out.fr HF1.out HH.out.ne⟩
      have HO1 : Aside0 (∀ k, (Value.slice A1 (tailOf l ++ b.take q).length c1).ownBlock = some k → k ≠ H ∧ (rv.ownBlock = some k ∨ w.heap.size ≤ k)) := ⟨by
        intro k hk
        rw [HV.out] at ho
        rcases ho with ho | ⟨bb, ho, hbb⟩
        · rw [ho] at hk; exact ⟨fun e => HH.out.ne (by rw [hk, e]), .inl hk⟩
        · rw [ho] at hk; obtain rfl := Option.some.inj hk
          have h2 : W.heap.size ≤ bb := hbb
          have h3 := HBK.out.lt
          have h4 := HF.out.size
          exact ⟨by omega, .inr (by omega)⟩⟩
      have HM1 : Aside0 (Mine w1 0 (.slice A1 (tailOf l ++ b.take q).length c1) (bi (tailOf l ++ b.take q))) := ⟨hm⟩
      have HFE : Aside0 (Fr (fun k => k = H ∨ rv.ownBlock = some k) w w1) := ⟨HF.out.trans HF1.out (fun k hk => .inl (.inr hk))⟩
      obtain ⟨m, e64⟩ : ∃ m : Nat, (tailOf l).length + q = m := ⟨_, rfl⟩
      have HFm : Aside0 ((tailOf l ++ b.take q).length = m) := ⟨by rw [List.length_append, List.length_take]; omega⟩
      have e64i : ((tailOf l).length : Int) + (q : Int) = m := by omega
      rw [e64]
      rw [HFm.out] at HO1 HM1
      clear hm hf ho hr1 hc1 hk9 hz9 HMD HRD HKP hf9 HLL c9
      have HB2 := Aside0.mk (HB1.out.put9 (.slice A1 m c1))
      have HM2 : Aside0 (Mine (w1.setCell ⟨H, 9, none⟩ (.slice A1 m c1)) 0 (.slice A1 m c1) (bi (tailOf l ++ b.take q))) := ⟨HM1.out.fr ((Fr.refl (fun k => k = H) w1).setCell (.inl rfl) _) (fun k hk e => (HO1.out k hk).1 e)⟩
      have HFE2 : Aside0 (Fr (fun k => k = H ∨ rv.ownBlock = some k) w (w1.setCell ⟨H, 9, none⟩ (.slice A1 m c1))) := ⟨HFE.out.setCell (.inl (.inl rfl)) _⟩
      generalize w1.setCell ⟨H, 9, none⟩ (.slice A1 m c1) = W2 at HB2 HM2 HFE2 ⊢
      clear HB1 HM1 HFE HF1
      have c9 := HB2.out.c9
      obtain ⟨d0, d1, d2, d3, d4, d5, d6, d7⟩ := HB2.out.cS
      have HK2 : Aside0 (∀ w1, Fr No W2 w1 → KAt w1) := ⟨fun w1 hf => (HKA.out.1.fr HFE2.out (by rintro (h | h); exact HKA.out.2.1 h.symm; exact HKA.out.2.2 h)).fr hf id⟩
      have HKQ : Aside0 (∀ w1, Fr No W2 w1 → HashIs w1 H (absorb S8.init l) ((l.length : Int) + b.length) (.slice A1 m c1)) := ⟨fun w1 hf => HB2.out.fr hf id⟩
      have HRF : Aside0 (∀ w1, Fr No W2 w1 → Rb w1 A1 (tailOf l ++ b.take q)) := ⟨fun w1 hf => by
        obtain ⟨A', c', e, _, hr⟩ := HM2.out.reads
        obtain ⟨rfl, _, _⟩ := Value.slice.inj e
        exact C_fr hr hf⟩
      have cf2 : ∀ j, W2.frozen? ⟨H, j, none⟩ = false := HB2.out.free
      by_cases h64 : m = 64
      · subst h64
        have HF64 := HFm
        have HRB : Aside0 (∀ w', Fr (fun k => k = H ∨ rv.ownBlock = some k) W2 w' → Rb w' (if c = q then A else A.map (·.add q)) (b.drop q)) := ⟨fun w' hf => Rb_drop (HB.out w' (HFE2.out.trans hf (fun k hk => .inl hk))) q hql hbc⟩
        go_upto_region 4 with fail
        go_cut [1] (fun v1 wx => wx = W2 ∧ v1 = .slice (if c = q then A else A.map (·.add q)) (b.length - q) (c - q))
        case first =>
          by_cases hcq : c = q
          · go_wp2_with fail
            go_meet
            exact ⟨rfl, by rw [if_pos hcq, hcq, Nat.sub_self]⟩
          · go_wp2_with fail
            go_meet
            exact ⟨rfl, by rw [if_neg hcq]⟩
        case rest =>
          obtain ⟨hwc, rfl⟩ := hcut
          rw [hwc]
          clear hwc
          generalize (if c = q then A else A.map (·.add q)) = A2 at HRB ⊢
          generalize hs : absorb S8.init l = s at *
          replace hs := Aside0.mk hs
          go_wp2_with fail
          have HFD : Aside0 (Fr No W2 W2.drew) := ⟨(Fr.refl No W2).drew⟩
          go_region_with (first
            | (go_at_call 59; refine (words_callsN (tailOf l ++ b.take q) 64 HF64.out (Nat.le_refl _) A1 c1 _ (HRF.out _ HFD.out)).mono ?_; rintro e w3 ⟨rfl, hfw⟩; have HFW := Aside0.mk (HFD.out.then_ hfw); clear hfw; obtain ⟨x0, x1, x2, x3, x4, x5, x6, x7⟩ := (HKQ.out _ HFW.out).cS; have x9 := (HKQ.out _ HFW.out).c9)
            | (go_at_call 58; refine (next_calls s (blockW (tailOf l ++ b.take q)) _ (HK2.out _ HFW.out)).mono ?_; rintro e w4 ⟨rfl, hfw⟩; have HFX := Aside0.mk (HFW.out.then_ hfw); clear hfw; unfold state8; obtain ⟨y0, y1, y2, y3, y4, y5, y6, y7⟩ := (HKQ.out _ HFX.out).cS; have y9 := (HKQ.out _ HFX.out).c9; have yf := (HKQ.out _ HFX.out).free))
          all_goals
            have HSE := (((HKQ.out _ HFX.out).putS (comp s (blockW (tailOf l ++ b.take q)))).put9 (.slice none 0 0))
            have HFZ := ((HFE2.out.then_ HFX.out).trans ((((((((((Fr.refl (fun k => k = H) w4).setCell (p := ⟨H, 0, none⟩) (.inl rfl) (.int .u32 (un (comp s (blockW (tailOf l ++ b.take q))).a))).setCell (p := ⟨H, 1, none⟩) (.inl rfl) (.int .u32 (un (comp s (blockW (tailOf l ++ b.take q))).b))).setCell (p := ⟨H, 2, none⟩) (.inl rfl) (.int .u32 (un (comp s (blockW (tailOf l ++ b.take q))).c))).setCell (p := ⟨H, 3, none⟩) (.inl rfl) (.int .u32 (un (comp s (blockW (tailOf l ++ b.take q))).d))).setCell (p := ⟨H, 4, none⟩) (.inl rfl) (.int .u32 (un (comp s (blockW (tailOf l ++ b.take q))).e))).setCell (p := ⟨H, 5, none⟩) (.inl rfl) (.int .u32 (un (comp s (blockW (tailOf l ++ b.take q))).f))).setCell (p := ⟨H, 6, none⟩) (.inl rfl) (.int .u32 (un (comp s (blockW (tailOf l ++ b.take q))).g))).setCell (p := ⟨H, 7, none⟩) (.inl rfl) (.int .u32 (un (comp s (blockW (tailOf l ++ b.take q))).h))).setCell (p := ⟨H, 9, none⟩) (.inl rfl) (.slice none 0 0)) (fun k hk => .inl (.inl hk)))
            go_wp2_with fail
            go_meet
            refine ⟨_, b.drop q, A2, c - q, .slice none 0 0, ⟨⟨by rw [List.length_drop], by rw [List.length_drop]; omega, HSE, Mine.nil _ _, by simp [Value.ownBlock], fun k hk => by simp [Value.ownBlock] at hk, ?_, ?_, HFZ, ?_, by rw [List.length_drop]; omega⟩⟩⟩
            · rw [← comp_append _ _ HF64.out, List.append_assoc, List.take_append_drop, absorb_append l S8.init b, hs.out]
            · rw [tailOf_append l b, ← List.take_append_drop q b, ← List.append_assoc, tail_append _ _ HF64.out, List.take_append_drop]
            · intro w' hf
              exact HRB.out w' ((((Fr.refl (fun k => k = H ∨ rv.ownBlock = some k) _).then_ HFX.out).trans ((((((((((Fr.refl (fun k => k = H) w4).setCell (p := ⟨H, 0, none⟩) (.inl rfl) (.int .u32 (un (comp s (blockW (tailOf l ++ b.take q))).a))).setCell (p := ⟨H, 1, none⟩) (.inl rfl) (.int .u32 (un (comp s (blockW (tailOf l ++ b.take q))).b))).setCell (p := ⟨H, 2, none⟩) (.inl rfl) (.int .u32 (un (comp s (blockW (tailOf l ++ b.take q))).c))).setCell (p := ⟨H, 3, none⟩) (.inl rfl) (.int .u32 (un (comp s (blockW (tailOf l ++ b.take q))).d))).setCell (p := ⟨H, 4, none⟩) (.inl rfl) (.int .u32 (un (comp s (blockW (tailOf l ++ b.take q))).e))).setCell (p := ⟨H, 5, none⟩) (.inl rfl) (.int .u32 (un (comp s (blockW (tailOf l ++ b.take q))).f))).setCell (p := ⟨H, 6, none⟩) (.inl rfl) (.int .u32 (un (comp s (blockW (tailOf l ++ b.take q))).g))).setCell (p := ⟨H, 7, none⟩) (.inl rfl) (.int .u32 (un (comp s (blockW (tailOf l ++ b.take q))).h))).setCell (p := ⟨H, 9, none⟩) (.inl rfl) (.slice none 0 0)) (fun k hk => .inl (.inl hk))).trans hf (fun k hk => .inl hk))
      · have hqb : q = b.length := by have := HTL.out; omega
        have hm64 : m < 64 := by have := HTL.out; omega
        have hne := HH.out.ne
        have hsum : absorb S8.init (l ++ b) = absorb S8.init l := by
          rw [absorb_append, absorb_short]
          rw [List.length_append]; omega
        have htl : tailOf (l ++ b) = tailOf l ++ b := by
          rw [tailOf_append, tailOf_short]
          rw [List.length_append]; omega
        have HPOST : Aside0 (HashOf W2 H (l ++ b) (.slice A1 m c1)) := ⟨⟨by rw [hsum, List.length_append]; have := HB2.out; exact_mod_cast this, by rw [htl]; have := HM2.out; rw [hqb, List.take_length] at this; exact this, fun e => (HO1.out H e).1 rfl⟩⟩
        clear hne hsum htl
        go_wp2_with fail
        all_goals
          refine bodyPost_ret (results_none rfl _ _ _) rfl ?_
          exact ⟨rfl, _, HPOST.out, fun k hk => (HO1.out k hk).2, HFE2.out⟩
  case rest =>
    obtain ⟨s1, b1, A1, c1, rv1, HG⟩ := hcut
    obtain ⟨R1, rc1, hrv1, hrc1, hrd1⟩ := Mine.reads (l := []) HG.out.rest
    subst hrv1
    clear hrd1 HBK HF HMW HB
    go_wp2
    go_loopw [1] (fun v wr => ∃ s2 b2 A2 c2, Aside0 (Going w wr H rv l b v s2 b2 A2 c2 (.slice R1 0 rc1))) (fun v _ => lenOf v)
    case atStart => exact ⟨_, _, _, _, HG⟩
    case round =>
      clear HG
      obtain ⟨s2, b2, A2, c2, HG⟩ := hrel
      obtain ⟨hv, hcap⟩ := And.intro HG.out.v HG.out.cap
      subst hv
      by_cases h64 : 64 ≤ b2.length
      · have hc64 : 64 ≤ c2 := by omega
        have HRB : Aside0 (∀ w', Fr (fun k => k = H ∨ rv.ownBlock = some k) wr w' → Rb w' (if c2 = 64 then A2 else A2.map (·.add 64)) (b2.drop 64)) := ⟨fun w' hf => Rb_drop (HG.out.reads w' hf) 64 h64 hcap⟩
        have HK2 : Aside0 (∀ w1, Fr No wr w1 → KAt w1) := ⟨fun w1 hf => (HKA.out.1.fr HG.out.fr (by rintro (h | h); exact HKA.out.2.1 h.symm; exact HKA.out.2.2 h)).fr hf id⟩
        have HKQ : Aside0 (∀ w1, Fr No wr w1 → HashIs w1 H s2 ((l.length : Int) + b.length) (.slice R1 0 rc1)) := ⟨fun w1 hf => HG.out.blk.fr hf id⟩
        have HRF : Aside0 (∀ w1, Fr No wr w1 → Rb w1 A2 b2) := ⟨fun w1 hf => HG.out.reads w1 (hf.mono (fun _ h => h.elim))⟩
        have h64i : (64 : Int) ≤ (b2.length : Int) := by omega
        have hcapi : (b2.length : Int) ≤ (c2 : Int) := by omega
        obtain ⟨d0, d1, d2, d3, d4, d5, d6, d7⟩ := HG.out.blk.cS
        have cf2 : ∀ j, wr.frozen? ⟨H, j, none⟩ = false := HG.out.blk.free
        obtain ⟨A3, hA3⟩ : ∃ A3, (if c2 = 64 then A2 else A2.map (·.add 64)) = A3 := ⟨_, rfl⟩
        have HA3 := Aside0.mk hA3
        rw [hA3] at HRB
        have HFD : Aside0 (Fr No wr wr.drew) := ⟨(Fr.refl No wr).drew⟩
        clear hA3
        have HST := fun w4 (hf : Fr No wr w4) => HG.out.step h64 hf HG.out.ne (comp s2 (blockW b2)) rfl
        replace HST := Aside0.mk HST
        by_cases hc : c2 = 64
        · subst hc
          rw [if_pos rfl, show b2.length - 64 = 0 by omega, Nat.sub_self] at HST
          go_wp2_with fail
          go_region_with (first
            | (go_at_call 59; refine (words_calls b2 h64 A2 64 _ (HRF.out _ HFD.out)).mono ?_; rintro e w3 ⟨rfl, hfw⟩; have HFW := Aside0.mk (HFD.out.then_ hfw); clear hfw; obtain ⟨x0, x1, x2, x3, x4, x5, x6, x7⟩ := (HKQ.out _ HFW.out).cS)
            | (go_at_call 58; refine (next_calls s2 (blockW b2) _ (HK2.out _ HFW.out)).mono ?_; rintro e w4 ⟨rfl, hfw⟩; have HFX := Aside0.mk (HFW.out.then_ hfw); clear hfw; unfold state8; obtain ⟨y0, y1, y2, y3, y4, y5, y6, y7⟩ := (HKQ.out _ HFX.out).cS; have yf := (HKQ.out _ HFX.out).free))
          all_goals
            simp only [Act.put, List.getElem_toArray, List.getElem_cons_succ, List.getElem_cons_zero, List.setIfInBounds_toArray, List.set_cons_succ, List.set_cons_zero]
            go_wp2
            exact ⟨⟨_, _, _, _, ⟨HST.out _ HFX.out⟩⟩, by simp only [lenOf]; omega⟩
        · have hc2 : (64 : Int) < (c2 : Int) := by omega
          rw [if_neg hc] at HST
          simp [go_sem] at HST
          go_wp2_with fail
          go_region_with (first
            | (go_at_call 59; refine (words_calls b2 h64 A2 c2 _ (HRF.out _ HFD.out)).mono ?_; rintro e w3 ⟨rfl, hfw⟩; have HFW := Aside0.mk (HFD.out.then_ hfw); clear hfw; obtain ⟨x0, x1, x2, x3, x4, x5, x6, x7⟩ := (HKQ.out _ HFW.out).cS)
            | (go_at_call 58; refine (next_calls s2 (blockW b2) _ (HK2.out _ HFW.out)).mono ?_; rintro e w4 ⟨rfl, hfw⟩; have HFX := Aside0.mk (HFW.out.then_ hfw); clear hfw; unfold state8; obtain ⟨y0, y1, y2, y3, y4, y5, y6, y7⟩ := (HKQ.out _ HFX.out).cS; have yf := (HKQ.out _ HFX.out).free))
          all_goals
            simp only [Act.put, List.getElem_toArray, List.getElem_cons_succ, List.getElem_cons_zero, List.setIfInBounds_toArray, List.set_cons_succ, List.set_cons_zero]
            go_wp2
            exact ⟨⟨_, _, _, _, ⟨HST.out _ HFX.out⟩⟩, by simp only [lenOf]; omega⟩
      · have hsum : absorb S8.init (l ++ b) = s2 := by rw [← HG.out.sum, absorb_short _ _ h64]
        have htail : tailOf (l ++ b) = b2 := by rw [← HG.out.tail, tailOf_short _ h64]
        have HST := Aside0.mk (And.intro hsum htail)
        have HMD : Aside0 (Mine wr 0 (.slice R1 0 rc1) []) := ⟨HG.out.rest⟩
        have HRD : Aside0 (Kd.C (Kd.int .u8) wr A2 b2.length (bi b2)) := ⟨HG.out.reads _ (Fr.refl _ wr)⟩
        have HKP : Aside0 (∀ w1, Fr (fun k => (Value.slice R1 0 rc1).ownBlock = some k) wr w1 → HashIs w1 H s2 ((l.length : Int) + b.length) (.slice R1 0 rc1)) := ⟨fun w1 hf => HG.out.blk.fr hf HG.out.ne⟩
        have c9 := HG.out.blk.c9
        have hf9 := HG.out.blk.free 9
        have HLL : Aside0 (([] : List Int).length + b2.length ≤ 140737488355328) := ⟨by simp only [List.length_nil]; omega⟩
        have hlt64 : (b2.length : Int) < 64 := by omega
        clear hsum htail
        go_wp2_with (at_builtin; refine app_rowG rfl _ _ 22 rfl Tryd.underlying22 infoU8 (.slice R1 0 rc1) [] (bi b2) _ b2.length _ rfl rfl HMD.out HRD.out HLL.out ?_; intro v1 w1 hm hf ho; rw [List.nil_append] at hm; obtain ⟨A3, c3, rfl, hc3, hr3⟩ := hm.reads; have hk9 := (HKP.out _ hf).c9; have hz9 := (HKP.out _ hf).free 9)
        all_goals
          have hown : ∀ k, (Value.slice A3 b2.length c3).ownBlock = some k → k ≠ H ∧ (rv.ownBlock = some k ∨ w.heap.size ≤ k) := by
            intro k hk
            rcases ho with ho | ⟨bb, ho, hbb⟩
            · rw [ho] at hk; exact ⟨fun e => HG.out.ne (by rw [hk, e]), HG.out.own k hk⟩
            · rw [ho] at hk; obtain rfl := Option.some.inj hk
              have h2 : wr.heap.size ≤ bb := hbb
              have h3 := HG.out.blk.lt
              have h4 := HG.out.fr.size
              exact ⟨by omega, .inr (by omega)⟩
          have HPO : Aside0 (HashOf (w1.setCell ⟨H, 9, none⟩ (.slice A3 b2.length c3)) H (l ++ b) (.slice A3 b2.length c3)) := ⟨⟨by
            rw [HST.out.1, List.length_append]
            have := (HKP.out _ hf).put9 (.slice A3 b2.length c3)
            exact_mod_cast this, by
            rw [HST.out.2]
            exact hm.fr ((Fr.refl (fun k => k = H) w1).setCell (.inl rfl) _) (fun k hk e => (hown k hk).1 e), fun e => (hown H e).1 rfl⟩⟩
          have HFZ : Aside0 (Fr (fun k => k = H ∨ rv.ownBlock = some k) w (w1.setCell ⟨H, 9, none⟩ (.slice A3 b2.length c3))) := ⟨(HG.out.fr.trans hf (fun k hk => by
            rcases HG.out.own k hk with h | h
            · exact .inl (.inr h)
            · exact .inr h)).setCell (.inl (.inl rfl)) _⟩
          refine bodyPost_end (results_none rfl _ _ _) rfl ?_
          exact ⟨_, rfl, HPO.out, fun k hk => (hown k hk).2, HFZ.out⟩
end Go.Proofs.YtbaeddppihjgfaaDoor.Sg
namespace Go.Proofs.YtbaeddppihjgfaaDoor.Sg
open Go Go.RowKit Go.Proofs.YtbaeddppihjgfaaDoorW.PrintWords
set_option linter.unusedVariables false
attribute [local go_sem] u_signed u_xor u_and u_or u_add u_add' u_not u_div8 u_div1024 u_wrap u_wrap'
theorem zeros_lt (n : Nat) : zerosOf n < 64 := by unfold zerosOf; omega
theorem zeros_iff {n k q r : Nat} (hk : k ≤ zerosOf n) (hq : k + 1 = q) (hr : (n + q) % 64 = r) : r = 56 ↔ k = zerosOf n := by unfold zerosOf at *; omega
theorem mod_cast64 {n q r : Nat} (hr : (n + q) % 64 = r) : ((n : Int) + (q : Int)) % 64 = (r : Int) := by omega
theorem len_wrap {n q : Nat} (h : n ≤ 140737488352256) (hq : q ≤ 64) : wrap64 ((n : Int) + (q : Int)) = (n : Int) + (q : Int) := by unfold wrap64; omega
theorem len_wrap2 {n q : Nat} (h : n ≤ 140737488352256) (hq : q ≤ 64) : IntKind.i64.wrap ((n : Int) + (q : Int)) = (n : Int) + (q : Int) := by rw [IntKind.wrap_i64]; omega
theorem pad_len (k q : Nat) (hq : k + 1 = q) : ((128 : UInt8) :: List.replicate k 0).length = q := by simp; omega
theorem pad_next (k : Nat) : bi (128 :: List.replicate k 0) ++ [0] = bi (128 :: List.replicate (k + 1) 0) := by
  rw [List.replicate_succ' (n := k)]
  simp [bi]
theorem byte_len (n p N8 : Nat) (h : 8 * n = N8) : ((N8 : Nat) : Int) / 2 ^ (8 * p) % 256 = ((lenB n p).toNat : Int) := by
  subst h
  unfold lenB
  rw [UInt8.toNat_ofNat']
  simp
theorem len8_take (n j p : Nat) (hj : j < 8) (hp : 7 - j = p) : (len8 n).take (j + 1) = (len8 n).take j ++ [lenB n p] := by
  subst hp
  match j, hj with
  | 0, _ => rfl
  | 1, _ => rfl
  | 2, _ => rfl
  | 3, _ => rfl
  | 4, _ => rfl
  | 5, _ => rfl
  | 6, _ => rfl
  | 7, _ => rfl
theorem pad_step (n j p : Nat) (hj : j < 8) (hp : 7 - j = p) : bi (128 :: List.replicate (zerosOf n) 0 ++ (len8 n).take j) ++ [((lenB n p).toNat : Int)] = bi (128 :: List.replicate (zerosOf n) 0 ++ (len8 n).take (j + 1)) := by
  rw [len8_take n j p hj hp, ← List.append_assoc, bi_append _ [lenB n p]]
  rfl
theorem state8_at (q : S8) (k : Nat) (hk : k < 8) : (state8 q)[k]? = some (.int .u32 (un (q.list.getD k 0))) := by
  match k, hk with
  | 0, _ => rfl
  | 1, _ => rfl
  | 2, _ => rfl
  | 3, _ => rfl
  | 4, _ => rfl
  | 5, _ => rfl
  | 6, _ => rfl
  | 7, _ => rfl
theorem out_reads (w : World) (x : W) : Kd.C (Kd.int .u8) (w.alloc (.cells #[.int .u8 (un x / 16777216 % 256), .int .u8 (un x / 65536 % 256), .int .u8 (un x / 256 % 256), .int .u8 (un x % 256)] 5)) (some ⟨w.heap.size, 0, none⟩) 4 (bi (outW x)) := by
  have b0 : un x / (16777216 : Int) % (256 : Int) = ((UInt8.ofNat (x >>> 24).toNat).toNat : Int) := by rw [u_div16777216]; unfold un; rw [UInt8.toNat_ofNat']; omega
  have b1 : un x / (65536 : Int) % (256 : Int) = ((UInt8.ofNat (x >>> 16).toNat).toNat : Int) := by rw [u_div65536]; unfold un; rw [UInt8.toNat_ofNat']; omega
  have b2 : un x / (256 : Int) % (256 : Int) = ((UInt8.ofNat (x >>> 8).toNat).toNat : Int) := by rw [u_div256]; unfold un; rw [UInt8.toNat_ofNat']; omega
  have b3 : un x % (256 : Int) = ((UInt8.ofNat x.toNat).toNat : Int) := by unfold un; rw [UInt8.toNat_ofNat']; omega
  rw [b0, b1, b2, b3]
  exact lit_reads w (outW x) (by simp [outW])
theorem out_take (q : S8) (k : Nat) (hk : k < 8) (x : W) (hx : q.list.getD k 0 = x) : bi ((q.list.take k).flatMap outW) ++ bi (outW x) = bi ((q.list.take (k + 1)).flatMap outW) := by
  have hl : k < q.list.length := hk
  rw [List.take_succ_eq_append_getElem hl, List.flatMap_append, bi_append]
  congr 2
  rw [← hx, List.getD_eq_getElem?_getD, List.getElem?_eq_getElem hl]
  simp
theorem out_len (q : S8) (k : Nat) (hk : k ≤ 8) : (bi ((q.list.take k).flatMap outW)).length + 4 ≤ 140737488355328 := by
  rw [bi_length]
  have : ∀ l : List W, (l.flatMap outW).length = 4 * l.length := fun l => by
    induction l with
    | nil => rfl
    | cons a l ih => rw [List.flatMap_cons, List.length_append, ih]; simp [outW]; omega
  rw [this, List.length_take]
  omega
theorem make_run {P : Program} (t : TypeId) (ht : P.underlying t = some (.slice 5)) (hinfo : (P.info? 5).map (fun i => (i.zero, i.size, i.bytes)) = some (some (.int .u8 0), 1, 1)) (n m : Nat) (hn : n ≤ m) (hm : m ≤ 281474976710656) (W : World) :
    (Instr.makeSlice t (.int .i64 (n : Int)) (.int .i64 (m : Int))).run P W = .ok (.slice (some ⟨W.heap.size, 0, none⟩) n m) (W.alloc (.cells (madeCells #[.int .u8 0] m) 5)) := by
  obtain ⟨i, hi, hzz⟩ := Option.map_eq_some_iff.1 hinfo
  simp only [Prod.mk.injEq] at hzz
  obtain ⟨hz0, hz1, hz2⟩ := hzz
  have := run_make (P := P) W t 5 i (.int .u8 0) ht hi hz0 .i64 .i64 (n : Int) (m : Int) (by omega) (by omega) (by rw [hz2]; omega) (by omega)
  rw [hz1] at this
  simpa [Value.cells] using this
theorem made_nums (m : Nat) : madeCells #[.int .u8 0] m = (nums .u8 (List.replicate m 0)).toArray := by
  apply Array.ext
  · simp [size_madeCells, nums]
  · intro i h1 h2
    have hi : i < m := by simpa [nums] using h2
    simp [nums, madeCells, Nat.mod_one]
theorem made_blk (W : World) (m : Nat) : Blk (W.alloc (.cells (madeCells #[.int .u8 0] m) 5)) W.heap.size (List.replicate m 0) := by
  unfold Blk
  rw [heap_alloc_new, made_nums]
theorem made_blk1 (W : World) (m : Nat) (x : Int) : Blk (W.alloc (.cells ((madeCells #[.int .u8 0] m).setIfInBounds 0 (.int .u8 x)) 5)) W.heap.size ((List.replicate m 0).set 0 x) := by
  unfold Blk
  rw [heap_alloc_new, made_nums, List.setIfInBounds_toArray]
  unfold nums
  rw [List.map_set]
set_option maxRecDepth 100000 in
set_option maxHeartbeats 4000000 in
theorem sumX_calls (w : World) (H : Nat) (l : List UInt8) (rv : Value) (hH : HashOf w H l rv) (hK : KAt w) (hl : l.length ≤ 140737488352256) :
    Calls Tryd.prog 29 #[.pointer (some ⟨H, 0, none⟩)] w fun e w' => ∃ v, e = .returned v ∧ Mine w' w.heap.size v (bi (sha l)) ∧ Fr No w w' := by
  obtain ⟨RA, rc, rfl, hrc, hrd⟩ := hH.rest.reads
  have HH := Aside0.mk hH
  have HR := Aside0.mk hrd
  have HKA := Aside0.mk hK
  have HLE := Aside0.mk hl
  have hH' : w.heap[H]? = some (.cells (hashA (absorb S8.init l) l.length (.slice RA (tailOf l).length rc)) 86 (0, 0)) := hH.blk
  have HL : Aside0 (([] : List Int).length + (tailOf l).length ≤ 140737488355328) := ⟨by have := tailOf_lt l; simp only [List.length_nil]; omega⟩
  clear hrd hrc hH hK hl
  generalize hs : absorb S8.init l = s at hH'
  have c0 : w.cell? ⟨H, 0, none⟩ = some (.int .u32 (un s.a)) := by simp [World.cell?, hH', hashA]
  have c1 : w.cell? ⟨H, 1, none⟩ = some (.int .u32 (un s.b)) := by simp [World.cell?, hH', hashA]
  have c2 : w.cell? ⟨H, 2, none⟩ = some (.int .u32 (un s.c)) := by simp [World.cell?, hH', hashA]
  have c3 : w.cell? ⟨H, 3, none⟩ = some (.int .u32 (un s.d)) := by simp [World.cell?, hH', hashA]
  have c4 : w.cell? ⟨H, 4, none⟩ = some (.int .u32 (un s.e)) := by simp [World.cell?, hH', hashA]
  have c5 : w.cell? ⟨H, 5, none⟩ = some (.int .u32 (un s.f)) := by simp [World.cell?, hH', hashA]
  have c6 : w.cell? ⟨H, 6, none⟩ = some (.int .u32 (un s.g)) := by simp [World.cell?, hH', hashA]
  have c7 : w.cell? ⟨H, 7, none⟩ = some (.int .u32 (un s.h)) := by simp [World.cell?, hH', hashA]
  have c8 : w.cell? ⟨H, 8, none⟩ = some (.int .i64 l.length) := by simp [World.cell?, hH', hashA]
  have c9 : w.cell? ⟨H, 9, none⟩ = some (.slice RA (tailOf l).length rc) := by simp [World.cell?, hH', hashA]
  have HS := Aside0.mk hs
  clear hs hH'
  have HK : Aside0 (∀ w1, Fr No w w1 → w1.cell? ⟨H, 0, none⟩ = some (.int .u32 (un s.a)) ∧ w1.cell? ⟨H, 1, none⟩ = some (.int .u32 (un s.b)) ∧ w1.cell? ⟨H, 2, none⟩ = some (.int .u32 (un s.c)) ∧ w1.cell? ⟨H, 3, none⟩ = some (.int .u32 (un s.d)) ∧ w1.cell? ⟨H, 4, none⟩ = some (.int .u32 (un s.e)) ∧ w1.cell? ⟨H, 5, none⟩ = some (.int .u32 (un s.f)) ∧ w1.cell? ⟨H, 6, none⟩ = some (.int .u32 (un s.g)) ∧ w1.cell? ⟨H, 7, none⟩ = some (.int .u32 (un s.h)) ∧ w1.cell? ⟨H, 8, none⟩ = some (.int .i64 l.length) ∧ w1.cell? ⟨H, 9, none⟩ = some (.slice RA (tailOf l).length rc)) :=
    ⟨fun w1 hf => ⟨hf.cell c0 id, hf.cell c1 id, hf.cell c2 id, hf.cell c3 id, hf.cell c4 id, hf.cell c5 id, hf.cell c6 id, hf.cell c7 id, hf.cell c8 id, hf.cell c9 id⟩⟩
  go_enter Tryd.func29, Tryd.ntmps29
  go_wp2_with fail
  have HR1 : Aside0 (Rb w.drew RA (tailOf l)) := ⟨C_fr HR.out (Fr.refl No w).drew⟩
  have HF1 : Aside0 (Fr No w w.drew) := ⟨(Fr.refl No w).drew⟩
  have HM1 : Aside0 (Mine w.drew w.heap.size (.slice none 0 0) []) := ⟨Mine.nil _ _⟩
  go_region_held3 (fun w1 => w1.cell? ⟨H, 0, none⟩ = some (.int .u32 (un s.a)) ∧ w1.cell? ⟨H, 1, none⟩ = some (.int .u32 (un s.b)) ∧ w1.cell? ⟨H, 2, none⟩ = some (.int .u32 (un s.c)) ∧ w1.cell? ⟨H, 3, none⟩ = some (.int .u32 (un s.d)) ∧ w1.cell? ⟨H, 4, none⟩ = some (.int .u32 (un s.e)) ∧ w1.cell? ⟨H, 5, none⟩ = some (.int .u32 (un s.f)) ∧ w1.cell? ⟨H, 6, none⟩ = some (.int .u32 (un s.g)) ∧ w1.cell? ⟨H, 7, none⟩ = some (.int .u32 (un s.h)) ∧ w1.cell? ⟨H, 8, none⟩ = some (.int .i64 l.length) ∧ w1.cell? ⟨H, 9, none⟩ = some (.slice RA (tailOf l).length rc))
    (first | exact HK.out _ hf | exact HK.out _ HF1.out | go_keep)
    ((refine app_row_step (by rfl) _ _ 22 (by rfl) Tryd.underlying22 infoU8 (.slice none 0 0) [] (bi (tailOf l)) RA (tailOf l).length rc (by rfl) (by rfl) HM1.out HR1.out HF1.out HL.out ?_; intro v1 w1 hm hf hg; rw [List.nil_append] at hm; obtain ⟨A1, c1, rfl, hc1, hr1⟩ := hm.reads))
  have HX : Aside0 (HashOf (w1.alloc (.cells (hashA s l.length (.slice A1 (tailOf l).length c1)) 86)) w1.heap.size l (.slice A1 (tailOf l).length c1)) := ⟨⟨by
    rw [HS.out]
    exact heap_alloc_new w1 _, (hm.lower (Nat.zero_le _)).fr ((Fr.refl No w1).alloc _) (fun _ _ => id), fun h => by have := (hm.base _ h).2; omega⟩⟩
  have HFX : Aside0 (Fr No w (w1.alloc (.cells (hashA s l.length (.slice A1 (tailOf l).length c1)) 86))) := ⟨hf.alloc _⟩
  have HBX : Aside0 (∀ k, (Value.slice A1 (tailOf l).length c1).ownBlock = some k → w.heap.size ≤ k) := ⟨fun k hk => (hm.base k hk).1⟩
  have HGE : Aside0 (w.heap.size ≤ w1.heap.size) := ⟨hf.size⟩
  unfold hashA at HX HFX
  generalize hW : w1.alloc _ = W at HX HFX ⊢
  have HSZ : Aside0 (w1.heap.size < W.heap.size) := ⟨by rw [← hW]; simp⟩
  clear hW
  generalize w1.heap.size = E at *
  have c8W : W.cell? ⟨H, 8, none⟩ = some (.int .i64 l.length) := (HK.out W HFX.out).2.2.2.2.2.2.2.2.1
  have hmk : ∀ W, (Instr.makeSlice 22 (.int .i64 1) (.int .i64 128)).run Tryd.prog W = .ok (.slice (some ⟨W.heap.size, 0, none⟩) 1 128) (W.alloc (.cells (madeCells #[.int .u8 0] 128) 5)) := make_run (P := Tryd.prog) 22 Tryd.underlying22 infoU8 1 128 (by decide) (by decide)
  have hw1 : IntKind.u64.wrap (l.length : Int) = l.length := by have := HLE.out; rw [IntKind.wrap_u64]; omega
  have hw2 : IntKind.u64.wrap ((l.length : Int) * 8) = ((8 * l.length : Nat) : Int) := by have := HLE.out; rw [IntKind.wrap_u64]; omega
  obtain ⟨N8, hN8⟩ : ∃ N8 : Nat, 8 * l.length = N8 := ⟨_, rfl⟩
  rw [hN8] at hw2
  have hB0 := made_blk W 128
  have hB1 := made_blk1 W 128 128
  have hfz := hB0.free 0
  have hcz : (W.alloc (.cells (madeCells #[.int .u8 0] 128) 5)).cell? ⟨W.heap.size, 0, none⟩ = some (.int .u8 0) := hB0.cell 0 (by decide)
  have HM0 : Aside0 (Mine (W.alloc (.cells ((madeCells #[.int .u8 0] 128).setIfInBounds 0 (.int .u8 128)) 5)) W.heap.size (.slice (some ⟨W.heap.size, 0, none⟩) 1 128) (bi (128 :: List.replicate 0 0))) := ⟨Kd.R_mono (Blk.R (xs := [128]) (ys := List.replicate 127 0) hB1 (by decide)) (fun _ _ => trivial)⟩
  have HF0 : Aside0 (Fr No W (W.alloc (.cells ((madeCells #[.int .u8 0] 128).setIfInBounds 0 (.int .u8 128)) 5))) := ⟨(Fr.refl No W).alloc _⟩
  clear hB0 hB1
  go_wp2
  clear hcz hfz hw1 hw2 hmk c8W c8 c9 c0 c2 c3 c4 c5 c6 c7
  go_loopw [5] (fun v wr => ∃ k : Nat, k ≤ zerosOf l.length ∧ Aside0 (Mine wr W.heap.size v (bi (128 :: List.replicate k 0))) ∧ Aside0 (Fr No W wr)) (fun v _ => 64 - lenOf v)
  case atStart => exact ⟨0, Nat.zero_le _, HM0, HF0⟩
  case round =>
    clear HM0 HF0
    obtain ⟨k, hk, HM, HF⟩ := hrel
    obtain ⟨D, cd, hD, hcd, hrd⟩ := HM.out.reads
    obtain ⟨q, hq⟩ : ∃ q : Nat, k + 1 = q := ⟨_, rfl⟩
    have hlq := pad_len k q hq
    rw [hlq] at hD hcd
    subst hD
    have c8r : wr.cell? ⟨H, 8, none⟩ = some (.int .i64 l.length) := (HK.out wr (HFX.out.then_ HF.out)).2.2.2.2.2.2.2.2.1
    obtain ⟨r, hr⟩ : ∃ r : Nat, (l.length + q) % 64 = r := ⟨_, rfl⟩
    have hr56 := zeros_iff hk hq hr
    have hmod := mod_cast64 hr
    have hq64 : q ≤ 64 := by have := zeros_lt l.length; omega
    have hle := HLE.out
    have HQ := Aside0.mk hq
    have HK56 := Aside0.mk hr56
    clear hq hr hr56
    by_cases h56 : r = 56
    · have hkz := HK56.out.1 h56
      have hmod56 : ((l.length : Int) + (q : Int)) % 64 = 56 := by rw [hmod, h56]; rfl
      have HKZ := Aside0.mk hkz
      clear hmod h56 hkz HK56
      go_wp2
      have HM1 : Aside0 (Mine wr W.heap.size (.slice D q cd) (bi (128 :: List.replicate (zerosOf l.length) 0 ++ (len8 l.length).take 0))) := ⟨by have := HM.out; rw [HKZ.out] at this; simpa using this⟩
      clear hmod56 HM HKZ HQ c8r hlq hcd hle hk hrd
      go_loopw [5, 6] (fun v i wx => ∃ j : Nat, j ≤ 8 ∧ i = .int .i64 ((7 : Int) - (j : Int)) ∧ Aside0 (Mine wx W.heap.size v (bi (128 :: List.replicate (zerosOf l.length) 0 ++ (len8 l.length).take j))) ∧ Aside0 (Fr No W wx)) (fun _ i _ => (intOf i + 1).toNat)
      case atStart => exact ⟨0, by omega, rfl, HM1, HF⟩
      case round =>
        clear HM1 HF
        obtain ⟨j, hj, rfl, HM, HF⟩ := hrel
        by_cases hj8 : j < 8
        · obtain ⟨p, hp⟩ : ∃ p : Nat, 7 - j = p := ⟨_, rfl⟩
          have hpi : (7 : Int) - (j : Int) = (p : Int) := by omega
          have hp7 : p ≤ 7 := by omega
          rw [hpi]
          clear hpi
          have HBY := Aside0.mk (byte_len l.length p N8 hN8)
          have HPS := Aside0.mk (pad_step l.length j p hj8 hp)
          have HJ := Aside0.mk (And.intro hj8 hp)
          have HLL : Aside0 ((bi (128 :: List.replicate (zerosOf l.length) 0 ++ (len8 l.length).take j)).length + 1 ≤ 140737488355328) := ⟨by
            have hz := zeros_lt l.length
            rw [bi_length]
            simp [len8]
            omega⟩
          clear hj8 hp hj
          go_wp2_with (at_builtin; refine app_byte rfl _ _ 22 rfl Tryd.underlying22 infoU8 _ (bi (128 :: List.replicate (zerosOf l.length) 0 ++ (len8 l.length).take j)) ((N8 : Int) / 2 ^ (8 * p) % 256) rfl rfl HM.out HF.out HLL.out ?_; intro v1 w1 hm hf hg)
          rw [HBY.out, HPS.out] at hm
          refine ⟨⟨j + 1, HJ.out.1, ?_, ⟨hm⟩, ⟨hf⟩⟩, ?_⟩
          · have := HJ.out; congr 1; omega
          · simp only [intOf]; omega
        · obtain rfl : j = 8 := by omega
          have HMP : Aside0 (Mine wr W.heap.size u5 (bi (padOf l.length))) := HM
          obtain ⟨D3, cd3, hD3, hcd3, hrd3⟩ := HMP.out.reads
          subst hD3
          have HE := Aside0.mk (HX.out.fr HF.out id (fun _ _ => id))
          have HK3 := Aside0.mk ((HKA.out.fr HFX.out id).fr HF.out id)
          have HRB : Aside0 (∀ w', Fr (fun k => k = E ∨ (Value.slice A1 (tailOf l).length c1).ownBlock = some k) wr w' → Rb w' D3 (padOf l.length)) := ⟨fun w' hf => by
            have hm := HMP.out.fr hf (fun k hk hS => by
              have h1 := (HMP.out.base k hk).1
              rcases hS with hS | hS
              · have := HSZ.out; omega
              · have := (HX.out.rest.base k hS).2; omega)
            obtain ⟨A', c', e, _, hr⟩ := hm.reads
            obtain ⟨rfl, _, _⟩ := Value.slice.inj e
            exact hr⟩
          have HK4 : Aside0 (E ≠ 3 ∧ (Value.slice A1 (tailOf l).length c1).ownBlock ≠ some 3) := ⟨by have := HKA.out.lt; have := HGE.out; omega, fun h => by have := HKA.out.lt; have := HBX.out _ h; omega⟩
          have HLN : Aside0 (l.length + (padOf l.length).length ≤ 140737488353280) := ⟨by have := HLE.out; have := zeros_lt l.length; rw [padOf_length]; omega⟩
          clear hrd3
          go_wp2_with fail
          refine (add_calls wr E l _ HE.out (padOf l.length) D3 cd3 hcd3 HRB.out HLN.out HK3.out HK4.out.1 HK4.out.2).mono ?_
          rintro e w2 ⟨rv2, rfl, hE2, _, hf2⟩
          have HF2 : Aside0 (Fr No w w2) := ⟨(HFX.out.then_ HF.out).trans hf2 (fun k hk => by
            rcases hk with hk | hk
            · exact .inr (by have := HGE.out; omega)
            · exact .inr (HBX.out k hk))⟩
          have HE2 := Aside0.mk hE2.blk
          clear hE2 hf2 HRB HLN HK3 HK4 HE HMP HM HF HX HFX HBX HGE HSZ hcd3
          generalize hqs : absorb S8.init (l ++ padOf l.length) = qs at HE2
          have HQS := Aside0.mk hqs
          clear hqs
          have hmk2 : ∀ W, (Instr.makeSlice 22 (.int .i64 0) (.int .i64 32)).run Tryd.prog W = .ok (.slice (some ⟨W.heap.size, 0, none⟩) 0 32) (W.alloc (.cells (madeCells #[.int .u8 0] 32) 5)) := make_run (P := Tryd.prog) 22 Tryd.underlying22 infoU8 0 32 (by decide) (by decide)
          have HE3 := Aside0.mk (HE2.out.fr ((Fr.refl No w2).alloc (.cells (madeCells #[.int .u8 0] 32) 5)) id)
          have HM4 := Aside0.mk (mine_made w2 32 w.heap.size HF2.out.size (by decide))
          have HF4 : Aside0 (Fr No w (w2.alloc (.cells (madeCells #[.int .u8 0] 32) 5))) := ⟨HF2.out.alloc _⟩
          obtain ⟨d0, d1, d2, d3, d4, d5, d6, d7⟩ := HE3.out.cS
          go_wp2
          clear hmk2 d0 d1 d2 d3 d4 d5 d6 d7
          go_loopw [7, 66] (fun v i wx => ∃ k : Nat, k ≤ 8 ∧ i = .int .i64 k ∧ Aside0 (Mine wx w.heap.size v (bi ((qs.list.take k).flatMap outW))) ∧ Aside0 (Fr No w wx)) (fun _ i _ => 8 - (intOf i).toNat)
          case atStart => exact ⟨0, by omega, rfl, HM4, HF4⟩
          case round =>
            clear HM4 HF4 HE3 HE2
            obtain ⟨k, hk, rfl, HM, HF⟩ := hrel
            by_cases hlt : k < 8
            · obtain ⟨x, hx⟩ : ∃ x : BitVec 32, qs.list.getD k 0 = x := ⟨_, rfl⟩
              have hix := run_index_part (P := Tryd.prog) 84 76 8 (state8 qs) k (.int .u32 (un x)) (.int .u32) hlt rfl rfl rfl rfl (by rw [← hx]; exact state8_at qs k hlt)
              unfold state8 at hix
              have HXX := Aside0.mk (out_take qs k hlt x hx)
              have HLL := Aside0.mk (out_len qs k hk)
              clear hx
              have HMA : Aside0 (Mine (wr.alloc (.cells #[.int .u8 (un x / 16777216 % 256), .int .u8 (un x / 65536 % 256), .int .u8 (un x / 256 % 256), .int .u8 (un x % 256)] 5)) w.heap.size u7 (bi ((qs.list.take k).flatMap outW))) := ⟨HM.out.fr ((Fr.refl No wr).alloc _) (fun _ _ => id)⟩
              have HFA : Aside0 (Fr No w (wr.alloc (.cells #[.int .u8 (un x / 16777216 % 256), .int .u8 (un x / 65536 % 256), .int .u8 (un x / 256 % 256), .int .u8 (un x % 256)] 5))) := ⟨HF.out.alloc _⟩
              have HRA := Aside0.mk (out_reads wr x)
              go_wp2_with (at_builtin; refine app_row rfl _ _ 22 rfl Tryd.underlying22 infoU8 u7 (bi ((qs.list.take k).flatMap outW)) (bi (outW x)) _ 4 _ rfl rfl HMA.out HRA.out HFA.out HLL.out ?_; intro v1 w1 hm hf hg)
              rw [HXX.out] at hm
              exact ⟨⟨k + 1, by omega, by go_num, ⟨hm⟩, ⟨hf⟩⟩, by simp [intOf]; omega⟩
            · obtain rfl : k = 8 := by omega
              have hall : sha l = qs.list.flatMap outW := by unfold sha outS; rw [HQS.out]
              have HMF : Aside0 (Mine wr w.heap.size u7 (bi (sha l))) := ⟨by rw [hall]; exact HM.out⟩
              clear hall
              go_wp2
              go_ret
              exact ⟨_, rfl, HMF.out, HF.out⟩
    · have hkz : k < zerosOf l.length := by have := mt HK56.out.2 h56; omega
      have hb56 : ((r : Int) == 56) = false := beq_eq_false_iff_ne.2 (by omega)
      have HLL : Aside0 ((bi (128 :: List.replicate k 0)).length + 1 ≤ 140737488355328) := ⟨by rw [bi_length, hlq]; omega⟩
      have HKZ := Aside0.mk hkz
      clear HK56 h56 hkz hlq
      go_wp2_with (at_builtin; refine app_byte rfl _ _ 22 rfl Tryd.underlying22 infoU8 _ (bi (128 :: List.replicate k 0)) 0 rfl rfl HM.out HF.out HLL.out ?_; intro v1 w1 hm hf hg)
      rw [pad_next] at hm
      obtain ⟨D2, cd2, hD2, hcd2, _⟩ := hm.reads
      have hl2 := pad_len (k + 1) (q + 1) (by have := HQ.out; omega)
      rw [hl2] at hD2
      subst hD2
      exact ⟨⟨k + 1, HKZ.out, ⟨hm⟩, ⟨hf⟩⟩, by simp only [lenOf]; have := zeros_lt l.length; have := HKZ.out; have := HQ.out; omega⟩
theorem sum_calls (w : World) (H : Nat) (l : List UInt8) (rv : Value) (hH : HashOf w H l rv) (hK : KAt w) (hl : l.length ≤ 140737488351232) :
    Calls Tryd.prog 29 #[.pointer (some ⟨H, 0, none⟩)] w fun e w' => ∃ v, e = .returned v ∧ Mine w' w.heap.size v (bi (sha l)) ∧ Fr No w w' :=
  sumX_calls w H l rv hH hK (by omega)
end Go.Proofs.YtbaeddppihjgfaaDoor.Sg
namespace Go.Proofs.YtbaeddppihjgfaaDoor.Sg
open Go Go.RowKit Go.Proofs.YtbaeddppihjgfaaDoorW.PrintWords
set_option linter.unusedVariables false
theorem FirstAt.fr {S : Nat → Prop} {w w' : World} (h : FirstAt w) (hf : Fr S w w') (hn : ¬ S 1) : FirstAt w' := fun j hj => hf.cell (h j hj) hn
theorem FirstAt.lt {w : World} (h : FirstAt w) : 1 < w.heap.size := World.block_lt_of_cell? w _ (h 0 (by decide))
set_option maxRecDepth 100000 in
set_option maxHeartbeats 4000000 in
theorem digestX_calls (b : List UInt8) (A : Option Addr) (c : Nat) (w : World) (hbc : b.length ≤ c) (hr : Rb w A b) (hl : b.length ≤ 140737488352256) (hK : KAt w) (hF : FirstAt w) :
    Calls Tryd.prog 22 #[.slice A b.length c] w fun e w' => ∃ v, e = .returned v ∧ Mine w' w.heap.size v (bi (sha b)) ∧ Fr No w w' := by
  have HR := Aside0.mk hr; have HK := Aside0.mk hK; have HF := Aside0.mk hF; have HL := Aside0.mk hl
  clear hr hK hF hl
  go_enter Tryd.func22, Tryd.ntmps22
  go_wp2_with fail
  refine (new_calls _ HF.out).mono ?_
  rintro e w1 ⟨rfl, h1, hf1⟩
  have HH1 := Aside0.mk h1; have HF1 := Aside0.mk hf1
  clear h1 hf1
  go_wp2_with fail
  refine (add_calls w1 w.heap.size [] _ HH1.out b A c hbc (fun w' hf => C_fr HR.out (HF1.out.trans hf (fun k hk => .inr (by
    rcases hk with hk | hk
    · omega
    · simp [Value.ownBlock] at hk)))) (by have := HL.out; simp only [List.length_nil]; omega) (HK.out.fr HF1.out id) (by have := HK.out.lt; omega) (by simp [Value.ownBlock])).mono ?_
  rintro e w2 ⟨rv2, rfl, h2, _, hf2⟩
  have HH2 : Aside0 (HashOf w2 w.heap.size b rv2) := ⟨h2⟩
  have HF2 : Aside0 (Fr No w w2) := ⟨HF1.out.trans hf2 (fun k hk => .inr (by
    rcases hk with hk | hk
    · omega
    · simp [Value.ownBlock] at hk))⟩
  clear h2 hf2
  go_wp2_with fail
  refine (sumX_calls w2 w.heap.size b rv2 HH2.out (HK.out.fr HF2.out id) HL.out).mono ?_
  rintro e w3 ⟨v, rfl, hm, hf⟩
  have HM : Aside0 (Mine w3 w.heap.size v (bi (sha b))) := ⟨hm.lower HF2.out.size⟩
  have HF3 : Aside0 (Fr No w w3) := ⟨HF2.out.then_ hf⟩
  clear hm hf
  go_wp2_with fail
  go_ret
  exact ⟨v, rfl, HM.out, HF3.out⟩
theorem digest_calls (b : List UInt8) (A : Option Addr) (c : Nat) (w : World) (hbc : b.length ≤ c) (hr : Rb w A b) (hl : b.length ≤ 140737488351232) (hK : KAt w) (hF : FirstAt w) :
    Calls Tryd.prog 22 #[.slice A b.length c] w fun e w' => ∃ v, e = .returned v ∧ Mine w' w.heap.size v (bi (sha b)) ∧ Fr No w w' :=
  digestX_calls b A c w hbc hr (by omega) hK hF
end Go.Proofs.YtbaeddppihjgfaaDoor.Sg
