/- The law DigestBook: the answers of one round, ahead of the book. -/
import Derived.Great.BuildSlice
import Derived.Test.YtbaeddppihjgfaaDoorBookMain
import Derived.Test.YtbaeddppihjgfaaDoorMgQuiet
namespace Go.Proofs.YtbaeddppihjgfaaDoor.Sg
open Go Go.RowKit Go.Proofs.YtbaeddppihjgfaaDoorW.PrintWords
set_option linter.unusedVariables false
theorem sameV_calls {w : World} {B1 B2 : Nat} {u v : Value} {l : List UInt8} (h1 : Mine w B1 u (bi l)) (h2 : Mine w B2 v (bi l)) : Calls Tryd.prog 23 #[u, v] w fun e w' => e = .returned (.bool true) ∧ w = w' := by
  obtain ⟨A, c, rfl, -, hr⟩ := h1.reads
  obtain ⟨D, d, rfl, -, hs⟩ := h2.reads
  exact (same_calls l l A D c d w hr hs).mono fun e w' ⟨he, hw⟩ => ⟨by rw [he, decide_eq_true rfl], hw⟩
theorem sameAllV_calls {w : World} {B : Nat} {v : Value} {es : List Slc} {q : LL} {n c : Nat} {A : Option Addr} (h : LstV w B v es q) (hn : q.length = n) (hr : Rbs w A q) : Calls Tryd.prog 37 #[v, .slice A n c] w fun e w' => e = .returned (.bool true) ∧ Fr No w w' := by
  subst hn
  obtain ⟨D, d, rfl, -, hd⟩ := h.rbs
  exact (sameAll_calls q q D A d c w hd hr).mono fun e w' ⟨he, hw⟩ => ⟨by rw [he, decide_eq_true rfl], hw⟩
theorem hexV_calls {w : World} {B : Nat} {v : Value} {l : List UInt8} (h : Mine w B v (bi l)) (hl : l.length ≤ 1048576) : Calls Tryd.prog 50 #[v] w fun e w' => e = .returned (.string ⟨(hexL l).toArray⟩) ∧ Fr No w w' := by
  obtain ⟨A, c, rfl, -, hr⟩ := h.reads
  exact hex_calls l A c w hr hl
theorem unhexV_calls (l : List UInt8) (w : World) (hl : l.length ≤ 1048576) : Calls Tryd.prog 49 #[.string ⟨(hexL l).toArray⟩] w fun e w' => ∃ v, e = .returned (.tuple #[v, .int .i64 0]) ∧ Mine w' w.heap.size v (bi l) ∧ Fr No w w' := by
  refine (unhex_calls (hexL l) w (by rw [hexL_length]; omega)).mono ?_
  rintro e w' ⟨hf, ⟨v, m, h1, h2, h3⟩ | ⟨h1, -⟩⟩
  · rw [unhex_hex] at h1
    obtain rfl := Option.some.inj h1
    exact ⟨v, h2, h3, hf⟩
  · rw [unhex_hex] at h1; cases h1
theorem RowsF.of_intervals {W : World} {B m : Nat} {vs : Nat → Value} {rs : Nat → List UInt8} (lo hi : Nat → Nat) (hm : ∀ j, j < m → Mine W B (vs j) (bi (rs j))) (hb : ∀ j, j < m → ∀ k, (vs j).ownBlock = some k → lo j ≤ k ∧ k < hi j) (ho : ∀ i j, i < m → j < m → i ≠ j → hi i ≤ lo j ∨ hi j ≤ lo i) : RowsF W B m vs rs :=
  ⟨hm, fun i j hi hj hij k h1 h2 => by
    have := hb i hi k h1
    have := hb j hj k h2
    have := ho i j hi hj hij
    omega⟩
/-- Made between two worlds. -/
structure Made (W0 W1 W : World) (B : Nat) (v : Value) (l : List UInt8) : Prop where
  mine : Mine W B v (bi l)
  at_ : ∀ k, v.ownBlock = some k → W0.heap.size ≤ k ∧ k < W1.heap.size
theorem Made.mk' {W0 W1 : World} {v : Value} {l : List UInt8} {B : Nat} (h : Mine W1 W0.heap.size v (bi l)) (hB : B ≤ W0.heap.size) : Made W0 W1 W1 B v l := ⟨h.lower hB, h.base⟩
theorem Made.frN {W0 W1 W W2 : World} {B : Nat} {v : Value} {l : List UInt8} (h : Made W0 W1 W B v l) (hf : Fr No W W2) : Made W0 W1 W2 B v l := ⟨h.mine.fr hf (fun _ _ => id), h.at_⟩
def sixV (a b c d e f : Value) : Nat → Value
  | 0 => a | 1 => b | 2 => c | 3 => d | 4 => e | 5 => f | _ => .slice none 0 0
def sixL (a b c d e f : List UInt8) : Nat → List UInt8
  | 0 => a | 1 => b | 2 => c | 3 => d | 4 => e | 5 => f | _ => []
/-- What waits for the book: six answers, and the rows of one more. -/
structure Wt (W : World) (B lo hi : Nat) (a b c d e f v : Value) (la lb lc ld le lf : List UInt8) (es : List Slc) (q : LL) : Prop where
  six : RowsF W B 6 (sixV a b c d e f) (sixL la lb lc ld le lf)
  l : LstV W B v es q
  b6 : ∀ k, OwnD 6 (Sg.sixV a b c d e f) k → lo ≤ k ∧ k < hi
  bl : ∀ k, OwnL v es q.length k → lo ≤ k ∧ k < hi
  x : ∀ k, OwnL v es q.length k → ¬ OwnD 6 (Sg.sixV a b c d e f) k
section
variable {W W1 : World} {B lo hi : Nat} {a b c d e f v : Value} {la lb lc ld le lf : List UInt8} {es : List Slc} {q : LL}
theorem Wt.fr {S : Nat → Prop} (h : Wt W B lo hi a b c d e f v la lb lc ld le lf es q) (hf : Fr S W W1) (hS : ∀ k, lo ≤ k → k < hi → ¬ S k) : Wt W1 B lo hi a b c d e f v la lb lc ld le lf es q :=
  ⟨h.six.fr hf (fun k hk => hS k (h.b6 k hk).1 (h.b6 k hk).2), h.l.fr hf (fun k hk => hS k (h.bl k hk).1 (h.bl k hk).2), h.b6, h.bl, h.x⟩
/-- Made one behind the other: f, the rows, d, r, s, t, u (in the order a: d, b: r, c: s, d: t, e: f, f: u). -/
theorem Wt.mk' {W0 w1 w2 w3 w4 w5 w6 w7 : World} (he : Made W0 w1 W B e le) (hl : LstV W w1.heap.size v es q) (hl2 : ∀ k, OwnL v es q.length k → k < w2.heap.size) (ha : Made w2 w3 W B a la) (hb : Made w3 w4 W B b lb) (hc : Made w4 w5 W B c lc) (hd : Made w5 w6 W B d ld) (hf : Made w6 w7 W B f lf)
    (h0 : B ≤ W0.heap.size) (h1 : W0.heap.size ≤ w1.heap.size) (h2 : w1.heap.size ≤ w2.heap.size) (h3 : w2.heap.size ≤ w3.heap.size) (h4 : w3.heap.size ≤ w4.heap.size) (h5 : w4.heap.size ≤ w5.heap.size) (h6 : w5.heap.size ≤ w6.heap.size) (h7 : w6.heap.size ≤ w7.heap.size) :
    Wt W B W0.heap.size w7.heap.size a b c d e f v la lb lc ld le lf es q := by
  have key : ∀ j k, j < 6 → (Sg.sixV a b c d e f j).ownBlock = some k → (W0.heap.size ≤ k ∧ k < w1.heap.size) ∨ (w2.heap.size ≤ k ∧ k < w7.heap.size) := fun j k hj hk => by
    have : j = 0 ∨ j = 1 ∨ j = 2 ∨ j = 3 ∨ j = 4 ∨ j = 5 := by omega
    rcases this with rfl | rfl | rfl | rfl | rfl | rfl
    · have := ha.at_ k hk; omega
    · have := hb.at_ k hk; omega
    · have := hc.at_ k hk; omega
    · have := hd.at_ k hk; omega
    · have := he.at_ k hk; omega
    · have := hf.at_ k hk; omega
  have hbl : ∀ k, OwnL v es q.length k → w1.heap.size ≤ k ∧ k < w2.heap.size := fun k hk => ⟨(hl.base hk).1, hl2 k hk⟩
  refine ⟨RowsF.of_intervals (fun j => [w2.heap.size, w3.heap.size, w4.heap.size, w5.heap.size, W0.heap.size, w6.heap.size].getD j 0) (fun j => [w3.heap.size, w4.heap.size, w5.heap.size, w6.heap.size, w1.heap.size, w7.heap.size].getD j 0) (fun j hj => ?_) (fun j hj k hk => ?_) (fun i j hi hj hij => ?_), ⟨hl.len, ?_, ⟨fun j hj => (hl.rows.mine j hj).lower (by omega), hl.rows.sep⟩⟩, fun k hk => ?_, fun k hk => ?_, fun k hk h8 => ?_⟩
  · have : j = 0 ∨ j = 1 ∨ j = 2 ∨ j = 3 ∨ j = 4 ∨ j = 5 := by omega
    rcases this with rfl | rfl | rfl | rfl | rfl | rfl
    · exact ha.mine
    · exact hb.mine
    · exact hc.mine
    · exact hd.mine
    · exact he.mine
    · exact hf.mine
  · have : j = 0 ∨ j = 1 ∨ j = 2 ∨ j = 3 ∨ j = 4 ∨ j = 5 := by omega
    rcases this with rfl | rfl | rfl | rfl | rfl | rfl
    · exact ha.at_ k hk
    · exact hb.at_ k hk
    · exact hc.at_ k hk
    · exact hd.at_ k hk
    · exact he.at_ k hk
    · exact hf.at_ k hk
  · have h1 : i = 0 ∨ i = 1 ∨ i = 2 ∨ i = 3 ∨ i = 4 ∨ i = 5 := by omega
    have h2 : j = 0 ∨ j = 1 ∨ j = 2 ∨ j = 3 ∨ j = 4 ∨ j = 5 := by omega
    rcases h1 with rfl | rfl | rfl | rfl | rfl | rfl <;> rcases h2 with rfl | rfl | rfl | rfl | rfl | rfl <;> simp only [List.getD_cons_zero, List.getD_cons_succ] <;> omega
  · exact Kd.R_lower hl.arr (by omega)
  · obtain ⟨j, hj, hk⟩ := hk
    have := key j k hj hk
    omega
  · have := hbl k hk; omega
  · obtain ⟨j, hj, hk2⟩ := h8
    have := key j k hj hk2
    have := hbl k hk
    omega
end
/-- The book at its start. -/
theorem book_start (w : World) (W : World) (hf : Fr No w W) : BkI w (W.alloc (.cells #[.int .i64 0, .slice none 0 0, .slice none 0 0] 71)) W.heap.size (fun k => k = W.heap.size) 0 (.slice none 0 0) [] (fun _ => []) := by
  have hz := hf.size
  refine ⟨⟨.slice none 0 0, .slice none 0 0, [], [], ⟨⟨heap_alloc_new W _, Kd.R_nil _ _ _ _ _, Kd.R_nil _ _ _ _ _⟩, rfl, rfl, ⟨rfl, hz⟩, fun k hk => by simp [Value.ownBlock] at hk, fun k hk => by simp [Value.ownBlock] at hk, fun q h1 => absurd h1 (by simp), fun q h1 => absurd h1 (by simp)⟩⟩, fun k hk => ?_, hf.alloc _, ⟨Kd.R_nil _ _ _ _ _, fun k hk => by simp [Value.ownBlock] at hk, ⟨fun j hj => absurd hj (by simp), fun i j hi => absurd hi (by simp)⟩, fun k ⟨j, hj, _⟩ => absurd hj (by simp), fun _ => by simp⟩⟩
  subst hk
  simp
  exact hz
theorem numK_calls (n : Int) (w : World) : Calls Tryd.prog 34 #[.int .i64 n] w fun e w' => e = .returned (.int .i64 n) ∧ w = w' := by
  go_enter Tryd.func34, Tryd.ntmps34
  go_wp2
  go_ret
  exact ⟨rfl, rfl⟩
theorem frameBad_calls (q : LL) (n : Nat) (hn : q.length = n) (A : Option Addr) (c : Nat) (w : World) (hr : Rbs w A q) (hl : ∀ l ∈ q, l.length ≤ 140737488351232) (hok : frameOk q = false) : Calls Tryd.prog 44 #[.slice A n c] w fun e w' => ∃ v, e = .returned (.tuple #[v, .int .i64 2]) ∧ Fr No w w' := by
  subst hn
  refine (frame_calls q A c w hr hl).mono ?_
  rintro e w' ⟨v, rfl, -, hf⟩
  refine ⟨v, ?_, hf⟩
  unfold frameE
  rw [hok]
  rfl
theorem frameE_two (ls : LL) : frameE ls = 0 ∨ frameE ls = 2 := by unfold frameE; split <;> simp
theorem infoRows : (Tryd.prog.info? 34).map (fun i => (i.zero, i.size, i.bytes)) = some (some (.slice none 0 0), 1, 24) := by kernel_rfl
theorem mustFrame_calls (q : LL) (n : Nat) (hn : q.length = n) (A : Option Addr) (c : Nat) (w : World) (hr : Rbs w A q) (hc : n ≤ c) (h2 : n ≤ 200) (hl : ∀ l ∈ q, l.length ≤ 140737488351232) (hok : frameOk q = true) : Calls Tryd.prog 52 #[.slice A n c] w fun e w' => ∃ v, e = .returned v ∧ Mine w' w.heap.size v (bi (frameL q)) ∧ Fr No w w' := by
  have h := Aside0.mk (frameQ_calls q n hn A c w hr hc h2 hl hok)
  clear hr hl hok hn
  go_enter Tryd.func52, Tryd.ntmps52
  go_wp2_with fail
  refine h.out.mono ?_
  rintro e w1 ⟨v, rfl, hm, hf⟩
  have HM := Aside0.mk hm; have HF := Aside0.mk hf
  clear hm hf
  go_wp2_with fail
  go_ret
  exact ⟨v, rfl, HM.out, HF.out⟩
/-- The answers of a round, till the book is looked at. -/
structure Ans (w wk : World) (p : Nat) (ok : Nat → Prop) (N : Nat) (vO : Value) (os : List Slc) (cs : Nat → List Slc) (W0 w1 w2 w3 w4 w5 w6 : World) (vf vl vd vr vs vt : Value) (el : List Slc) (q : LL) (lf ld lr lt : List UInt8) : Prop where
  bk : BkI w wk p ok N vO os cs
  okb : ∀ k, ok k → k < W0.heap.size
  f : Made W0 w1 wk w.heap.size vf lf
  l : LstV wk w1.heap.size vl el q
  l2 : ∀ k, OwnL vl el q.length k → k < w2.heap.size
  d : Made w2 w3 wk w.heap.size vd ld
  r : Made w3 w4 wk w.heap.size vr lr
  s : Made w4 w5 wk w.heap.size vs lt
  t : Made w5 w6 wk w.heap.size vt lt
  sz : w.heap.size ≤ W0.heap.size ∧ W0.heap.size ≤ w1.heap.size ∧ w1.heap.size ≤ w2.heap.size ∧ w2.heap.size ≤ w3.heap.size ∧ w3.heap.size ≤ w4.heap.size ∧ w4.heap.size ≤ w5.heap.size ∧ w5.heap.size ≤ w6.heap.size ∧ w6.heap.size ≤ wk.heap.size
theorem Ans.frN {w wk wn : World} {p : Nat} {ok : Nat → Prop} {N : Nat} {vO : Value} {os : List Slc} {cs : Nat → List Slc} {W0 w1 w2 w3 w4 w5 w6 : World} {vf vl vd vr vs vt : Value} {el : List Slc} {q : LL} {lf ld lr lt : List UInt8} (h : Ans w wk p ok N vO os cs W0 w1 w2 w3 w4 w5 w6 vf vl vd vr vs vt el q lf ld lr lt) (hf : Fr No wk wn) : Ans w wn p ok N vO os cs W0 w1 w2 w3 w4 w5 w6 vf vl vd vr vs vt el q lf ld lr lt :=
  ⟨h.bk.frN hf, h.okb, h.f.frN hf, h.l.fr hf (fun _ _ => id), h.l2, h.d.frN hf, h.r.frN hf, h.s.frN hf, h.t.frN hf, by have := h.sz; have := hf.size; omega⟩
/-- The book, and what waits for it. -/
structure Rnd (w wk : World) (p : Nat) (ok : Nat → Prop) (N : Nat) (vO : Value) (os : List Slc) (cs : Nat → List Slc) (lo hi : Nat) (a b c d e f v : Value) (la lb lc ld le lf : List UInt8) (es : List Slc) (q : LL) : Prop where
  bk : BkI w wk p ok N vO os cs
  wt : Wt wk w.heap.size lo hi a b c d e f v la lb lc ld le lf es q
  okb : ∀ k, lo ≤ k → k < hi → ¬ ok k
  out : ∀ k, lo ≤ k → k < hi → ¬ (vO.ownBlock = some k ∨ OwnD os.length (rowV os) k)
  hi : hi ≤ wk.heap.size
theorem Ans.rnd {w wk wn : World} {p : Nat} {ok : Nat → Prop} {N : Nat} {vO : Value} {os : List Slc} {cs : Nat → List Slc} {W0 w1 w2 w3 w4 w5 w6 : World} {vf vl vd vr vs vt vu : Value} {el : List Slc} {q : LL} {lf ld lr lt lu : List UInt8} (h : Ans w wk p ok N vO os cs W0 w1 w2 w3 w4 w5 w6 vf vl vd vr vs vt el q lf ld lr lt) (hout : ∀ k, vO.ownBlock = some k ∨ OwnD os.length (rowV os) k → k < W0.heap.size) (hf : Fr No wk wn) (hu : Mine wn wk.heap.size vu (bi lu)) :
    Rnd w wn p ok N vO os cs W0.heap.size wn.heap.size vd vr vs vt vf vu vl ld lr lt lt lf lu el q := by
  have hn := h.frN hf
  have hz := h.sz
  have hz2 := hf.size
  refine ⟨hn.bk, Wt.mk' (w6 := wk) hn.f hn.l hn.l2 hn.d hn.r hn.s ⟨hn.t.mine, fun k hk => by have := hn.t.at_ k hk; omega⟩ (Made.mk' hu (by omega)) (by omega) (by omega) (by omega) (by omega) (by omega) (by omega) (by omega) (by omega), fun k h1 _ h2 => ?_, fun k h1 _ h2 => ?_, Nat.le_refl _⟩
  · have := h.okb k h2; omega
  · have := hout k h2; omega
section
variable {w wk wn : World} {p : Nat} {ok : Nat → Prop} {N n0 c0 : Nat} {A0 : Option Addr} {vO : Value} {os : List Slc} {cs : Nat → List Slc} {lo hi : Nat} {a b c d e f v : Value} {la lb lc ld le lf : List UInt8} {es : List Slc} {q : LL}
theorem Rnd.frN (h : Rnd w wk p ok N vO os cs lo hi a b c d e f v la lb lc ld le lf es q) (hf : Fr No wk wn) : Rnd w wn p ok N vO os cs lo hi a b c d e f v la lb lc ld le lf es q :=
  ⟨h.bk.frN hf, h.wt.fr hf (fun _ _ _ => id), h.okb, h.out, by have := h.hi; have := hf.size; omega⟩
/-- Rows made since hand themselves to the book. -/
theorem Rnd.take_calls (h : Rnd w wk p ok N vO os cs lo hi a b c d e f v la lb lc ld le lf es q) (hN : N ≤ 1000000000) {A : Option Addr} {cc n : Nat} {vs : Nat → Value} {rs : Nat → List UInt8} (hr : RowsF wk w.heap.size n vs rs) (hA : ∀ i, i < n → ∃ ad, A = some ad ∧ wk.cell? (ad.add i) = some (vs i)) (hAf : ∀ ad, A = some ad → ¬ ok ad.block ∧ ¬ OwnD n vs ad.block) (hD : ∀ k, OwnD n vs k → ¬ ok k) (hD2 : ∀ k, OwnD n vs k → ¬ (lo ≤ k ∧ k < hi)) (hn : n ≤ 100000) (hl : ∀ j, (rs j).length ≤ 67108864) :
    Calls Tryd.prog 51 #[.pointer (some ⟨p, 0, none⟩), .slice A n cc] wk fun e' w' => e' = .returned (.bool true) ∧ Rnd w w' p (fun k => (ok k ∨ OwnD n vs k ∨ wk.heap.size ≤ k) ∧ k < w'.heap.size) (N + 4 * n) vO os cs lo hi a b c d e f v la lb lc ld le lf es q ∧ Fr (fun k => ok k ∨ OwnD n vs k) wk w' := by
  refine (h.bk.take_calls hN hr hA hAf hD hn hl).mono ?_
  rintro e' w' ⟨rfl, hb, hf⟩
  have hz := hf.size
  refine ⟨rfl, ⟨hb, h.wt.fr hf (fun k h1 h2 h3 => h3.elim (h.okb k h1 h2) (fun h4 => hD2 k h4 ⟨h1, h2⟩)), fun k h1 h2 h3 => ?_, h.out, by have := h.hi; omega⟩, hf⟩
  rcases h3.1 with h4 | h4 | h4
  · exact h.okb k h1 h2 h4
  · exact hD2 k h4 ⟨h1, h2⟩
  · have := h.hi; omega
theorem Rnd.push (h : Rnd w wk p ok N vO os cs lo hi a b c d e f v la lb lc ld le lf es q) {w1 : World} {v1 : Value} {s : Slc} {es2 : List Slc} {W : World} (hfa : Fr No wk W) (hm : Kd.R KV 34 w1 w.heap.size (fun _ => True) v1 (os ++ [s])) (hf : Fr (fun k => vO.ownBlock = some k) W w1) (ho : v1.ownBlock = vO.ownBlock ∨ ∃ b, v1.ownBlock = some b ∧ W.heap.size ≤ b) (hs : Kd.R KV 22 wk w.heap.size (fun _ => True) (slcV s) es2) (hsm : es2.length ≤ 60000) (hok : ∀ k, (slcV s).ownBlock = some k → ¬ ok k ∧ ¬ OwnD os.length (rowV os) k ∧ ¬ (lo ≤ k ∧ k < hi)) :
    Rnd w w1 p ok N v1 (os ++ [s]) (fun j => if j = os.length then es2 else cs j) lo hi a b c d e f v la lb lc ld le lf es q := by
  have hz := hf.size
  have hza := hfa.size
  have hhi := h.hi
  refine ⟨h.bk.push hfa hm hf ho hs hsm (fun k hk => ⟨(hok k hk).1, (hok k hk).2.1⟩), (h.wt.fr hfa (fun _ _ _ => id)).fr hf (fun k h1 h2 h3 => h.out k h1 h2 (.inl h3)), h.okb, fun k h1 h2 h3 => ?_, by omega⟩
  rcases h3 with h3 | ⟨j, hj, h3⟩
  · rcases ho with e1 | ⟨b1, e1, hb1⟩
    · exact h.out k h1 h2 (.inl (by rw [← e1, h3]))
    · rw [e1] at h3; injection h3 with h3; omega
  · by_cases hj2 : j < os.length
    · rw [rowV_at _ _ hj, List.getElem_append_left hj2, ← rowV_at _ _ hj2] at h3
      exact h.out k h1 h2 (.inr ⟨j, hj2, h3⟩)
    · have : j = os.length := by simp at hj; omega
      subst this
      rw [rowV_at _ _ hj, List.getElem_append_right (Nat.le_refl _)] at h3
      simp only [Nat.sub_self, List.getElem_cons_zero] at h3
      exact (hok k h3).2.2 ⟨h1, h2⟩
/-- A list's rows handed to the book. -/
theorem Rnd.takeL_calls (h : Rnd w wk p ok N vO os cs lo hi a b c d e f v la lb lc ld le lf es q) (hN : N ≤ 1000000000) {ew : List Slc} {L : LL} {nL cw b0 : Nat} {Aw : Option Addr} (hw : LstV wk b0 (.slice Aw nL cw) ew L) (hnL : L.length = nL) (hb0 : hi ≤ b0) (hbB : w.heap.size ≤ b0) (hok0 : ∀ k, ok k → k < b0) (hsm : ∀ l ∈ L, l.length ≤ 67108864) (hL : nL ≤ 100000) :
    Calls Tryd.prog 51 #[.pointer (some ⟨p, 0, none⟩), .slice Aw nL cw] wk fun e' w' => e' = .returned (.bool true) ∧ ∃ ok', Rnd w w' p ok' (N + 4 * nL) vO os cs lo hi a b c d e f v la lb lc ld le lf es q ∧ (∀ k, ok' k → (ok k ∨ OwnD nL (rowV ew) k ∨ wk.heap.size ≤ k) ∧ k < w'.heap.size) ∧ Fr (fun k => ok k ∨ OwnD nL (rowV ew) k) wk w' := by
  subst hnL
  refine (h.take_calls (rs := rowL L) hN ⟨fun j hj => (hw.rows.mine j hj).lower hbB, hw.rows.sep⟩ (fun i hi => hw.at_ i hi) (fun ad e => ?_) (fun k hk h2 => ?_) (fun k hk h2 => ?_) hL (fun j => ?_)).mono ?_
  · have ho : (Value.slice Aw L.length cw).ownBlock = some ad.block := by rw [e]; rfl
    refine ⟨fun h2 => ?_, hw.arr_ne _ ho⟩
    have := (hw.base (.inl ho)).1
    have := hok0 _ h2
    omega
  · have := (hw.base (.inr hk)).1
    have := hok0 _ h2
    omega
  · have := (hw.base (.inr hk)).1
    omega
  · by_cases hj : j < L.length
    · rw [rowL_at _ _ hj]; exact hsm _ (List.getElem_mem _)
    · unfold rowL; simp [List.getD_eq_getElem?_getD, List.getElem?_eq_none (by omega : L.length ≤ j)]
  · rintro e' w' ⟨rfl, hR, hf⟩
    exact ⟨rfl, _, hR, fun k hk => hk, hf⟩
/-- One list handed to the book. -/
theorem Rnd.take1_calls (h : Rnd w wk p ok N vO os cs lo hi a b c d e f v la lb lc ld le lf es q) (hN : N ≤ 1000000000) {vy : Value} {l : List UInt8} (hm : Mine wk w.heap.size vy (bi l)) (hy : ∀ k, vy.ownBlock = some k → ¬ ok k ∧ ¬ (lo ≤ k ∧ k < hi)) (hl : l.length ≤ 67108864) :
    Calls Tryd.prog 51 #[.pointer (some ⟨p, 0, none⟩), .slice (some ⟨wk.heap.size, 0, none⟩) 1 1] (wk.alloc (.cells #[vy] 22)) fun e' w' => e' = .returned (.bool true) ∧ ∃ ok', Rnd w w' p ok' (N + 4) vO os cs lo hi a b c d e f v la lb lc ld le lf es q ∧ (∀ k, ok' k → ok k ∨ vy.ownBlock = some k ∨ wk.heap.size ≤ k) ∧ Fr (fun k => ok k ∨ vy.ownBlock = some k) wk w' := by
  have hfa : Fr No wk (wk.alloc (.cells #[vy] 22)) := (Fr.refl No wk).alloc _
  have hza := hfa.size
  have ho : ∀ k, OwnD 1 (fun _ => vy) k → vy.ownBlock = some k := fun k ⟨j, hj, hk⟩ => hk
  refine ((h.frN hfa).take_calls (n := 1) (vs := fun _ => vy) (rs := fun _ => l) hN ⟨fun j hj => hm.fr hfa (fun _ _ => id), fun i j hi hj hij => by omega⟩ (fun i hi => ?_) (fun ad e => ?_) (fun k hk => (hy k (ho k hk)).1) (fun k hk => (hy k (ho k hk)).2) (by decide) (fun _ => hl)).mono ?_
  · obtain rfl : i = 0 := by omega
    refine ⟨_, rfl, ?_⟩
    rw [add_plain, World.cell?_alloc_mark]
    simp
  · obtain rfl := Option.some.inj e
    refine ⟨fun h2 => ?_, fun h2 => ?_⟩
    · have := (h.bk.okb _ h2).2; simp at this
    · have := (hm.base _ (ho _ h2)).2; simp at this
  · rintro e' w' ⟨rfl, hR, hf⟩
    refine ⟨rfl, _, hR, fun k hk => ?_, (hfa.mono (fun _ h => h.elim)).trans hf (fun k hk => .inl (hk.imp id (ho k)))⟩
    rcases hk.1 with h2 | h2 | h2
    · exact .inl h2
    · exact .inr (.inl (ho k h2))
    · exact .inr (.inr (by omega))
/-- The last two: the rows of the list that waits, and the six. -/
theorem Rnd.rows_calls (h : Rnd w wk p ok N vO os cs lo hi a b c d e f (.slice A0 n0 c0) la lb lc ld le lf es q) (hN : N ≤ 1000000000) (hn : q.length = n0) (hn2 : n0 ≤ 100000) (hsm : ∀ l ∈ q, l.length ≤ 67108864) :
    Calls Tryd.prog 51 #[.pointer (some ⟨p, 0, none⟩), .slice A0 n0 c0] wk fun e' w' => e' = .returned (.bool true) ∧ ∃ ok', BkI w w' p ok' (N + 4 * n0) vO os cs ∧ RowsF w' w.heap.size 6 (sixV a b c d e f) (sixL la lb lc ld le lf) ∧ Kd.R KV 22 w' w.heap.size (fun _ => True) (.slice A0 n0 c0) es ∧ (∀ k, OwnD 6 (sixV a b c d e f) k → ¬ ok' k ∧ k < w'.heap.size) ∧ (∀ k, (Value.slice A0 n0 c0).ownBlock = some k → ¬ ok' k ∧ ¬ OwnD os.length (rowV os) k ∧ ¬ OwnD 6 (sixV a b c d e f) k) := by
  subst hn
  refine (h.bk.take_calls (rs := rowL q) hN h.wt.l.rows (fun i hi => h.wt.l.at_ i hi) (fun ad e => ?_) (fun k hk h2 => ?_) hn2 (fun j => ?_)).mono ?_
  · have ho : (Value.slice A0 q.length c0).ownBlock = some ad.block := by rw [e]; rfl
    have hb := h.wt.bl _ (.inl ho)
    exact ⟨h.okb _ hb.1 hb.2, h.wt.l.arr_ne _ ho⟩
  · have hb := h.wt.bl _ (.inr hk)
    exact h.okb _ hb.1 hb.2 h2
  · by_cases hj : j < q.length
    · rw [rowL_at _ _ hj]; exact hsm _ (List.getElem_mem _)
    · unfold rowL; simp [List.getD_eq_getElem?_getD, List.getElem?_eq_none (by omega : q.length ≤ j)]
  · rintro e' w' ⟨rfl, hB, hf⟩
    have hz := hf.size
    have hhi := h.hi
    refine ⟨rfl, _, hB, h.wt.six.fr hf (fun k hk h2 => ?_), scalar_fr h.wt.l.arr hf (fun k hk h2 => ?_), fun k hk => ⟨fun h2 => ?_, ?_⟩, fun k hk => ⟨fun h2 => ?_, fun h2 => ?_, h.wt.x k (.inl hk)⟩⟩
    · have hb := h.wt.b6 k hk
      exact h2.elim (h.okb k hb.1 hb.2) (fun h3 => h.wt.x k (.inr h3) hk)
    · have hb := h.wt.bl k (.inl hk)
      exact h2.elim (h.okb k hb.1 hb.2) (h.wt.l.arr_ne k hk)
    · have hb := h.wt.b6 k hk
      rcases h2.1 with h3 | h3 | h3
      · exact h.okb k hb.1 hb.2 h3
      · exact h.wt.x k (.inr h3) hk
      · omega
    · have hb := h.wt.b6 k hk; omega
    · have hb := h.wt.bl k (.inl hk)
      rcases h2.1 with h3 | h3 | h3
      · exact h.okb k hb.1 hb.2 h3
      · exact h.wt.l.arr_ne k hk h3
      · omega
    · have hb := h.wt.bl k (.inl hk)
      exact h.out k hb.1 hb.2 (.inr h2)
end
/-- The six handed to the book. -/
theorem six_calls {w wk : World} {p : Nat} {ok : Nat → Prop} {N : Nat} {vO : Value} {os es : List Slc} {cs : Nat → List Slc} {a b c d e f v : Value} {la lb lc ld le lf : List UInt8} (h : BkI w wk p ok N vO os cs) (hN : N ≤ 1000000000) (h6 : RowsF wk w.heap.size 6 (sixV a b c d e f) (sixL la lb lc ld le lf)) (ho : ∀ k, OwnD 6 (sixV a b c d e f) k → ¬ ok k ∧ k < wk.heap.size) (hl : ∀ j, (sixL la lb lc ld le lf j).length ≤ 67108864)
    (hv : Kd.R KV 22 wk w.heap.size (fun _ => True) v es) (hv2 : ∀ k, v.ownBlock = some k → ¬ ok k ∧ ¬ OwnD os.length (rowV os) k ∧ ¬ OwnD 6 (sixV a b c d e f) k) :
    Calls Tryd.prog 51 #[.pointer (some ⟨p, 0, none⟩), .slice (some ⟨wk.heap.size, 0, none⟩) 6 6] (wk.alloc (.cells #[a, b, c, d, e, f] 22)) fun e' w' => e' = .returned (.bool true) ∧ ∃ ok', BkI w w' p ok' (N + 24) vO os cs ∧ Kd.R KV 22 w' w.heap.size (fun _ => True) v es ∧ (∀ k, v.ownBlock = some k → ¬ ok' k ∧ ¬ OwnD os.length (rowV os) k) := by
  have hfa : Fr No wk (wk.alloc (.cells #[a, b, c, d, e, f] 22)) := (Fr.refl No wk).alloc _
  have hza := hfa.size
  refine ((h.frN hfa).take_calls (n := 6) (rs := sixL la lb lc ld le lf) hN (h6.fr hfa (fun _ _ => id)) (fun i hi => ?_) (fun ad e => ?_) (fun k hk => (ho k hk).1) (by decide) hl).mono ?_
  · refine ⟨_, rfl, ?_⟩
    rw [add_plain, World.cell?_alloc_mark]
    have : i = 0 ∨ i = 1 ∨ i = 2 ∨ i = 3 ∨ i = 4 ∨ i = 5 := by omega
    rcases this with rfl | rfl | rfl | rfl | rfl | rfl <;> simp [sixV]
  · obtain rfl := Option.some.inj e
    refine ⟨fun h2 => ?_, fun h2 => ?_⟩
    · have := (h.okb _ h2).2; simp at this
    · have := (ho _ h2).2; simp at this
  · rintro e' w' ⟨rfl, hB, hf⟩
    refine ⟨rfl, _, hB, scalar_fr (scalar_fr hv hfa (fun _ _ => id)) hf (fun k hk h2 => h2.elim (hv2 k hk).1 (hv2 k hk).2.2), fun k hk => ⟨fun h2 => ?_, (hv2 k hk).2.1⟩⟩
    have hlt := (ownS_lt hv k hk).2
    rcases h2.1 with h3 | h3 | h3
    · exact (hv2 k hk).1 h3
    · exact (hv2 k hk).2.2 h3
    · omega
theorem BkI.still2_calls {w wr w' : World} {p N : Nat} {ok : Nat → Prop} {vO : Value} {os : List Slc} {cs : Nat → List Slc} (h : BkI w wr p ok N vO os cs) (hN : N ≤ 1000000000) (hf : Fr (OwnD os.length (rowV os)) wr w') : Calls Tryd.prog 48 #[.pointer (some ⟨p, 0, none⟩)] w' fun e w'' => e = .returned (.bool true) ∧ Fr No w' w'' := by
  obtain ⟨vW, vL, ws, es, hb⟩ := h.bk
  have hb2 := hb.frS hf (fun k hk h2 => h.out.rok k h2 hk)
  exact Sg.still_calls w' w.heap.size p N vW vL ws es hb2.s (by rw [hb2.le, hb2.lw]) (by rw [hb2.le]; omega) hb2.el
theorem BkI.grown_calls {w wr : World} {p N n c : Nat} {A : Option Addr} {ok : Nat → Prop} {os : List Slc} {cs : Nat → List Slc} (h : BkI w wr p ok N (.slice A n c) os cs) (hn : os.length = n) (hn2 : n ≤ 60000) : Calls Tryd.prog 53 #[.slice A n c] wr fun e w' => e = .returned (.bool true) ∧ Fr (OwnD os.length (rowV os)) wr w' := by
  subst hn
  obtain ⟨A2, c2, hv, -, hr⟩ := Kd.R_reads h.out.arr
  injection hv with e1 e2 e3
  subst e1
  refine grownLists_calls wr w.heap.size os.length A c (rowV os) cs h.out.rows (fun i hi => ?_) (fun ad e h2 => ?_) hn2 h.out.sm h.fr.size
  · obtain ⟨ad, e, hc⟩ := scalar_at hr i hi
    exact ⟨ad, e, by rw [hc, rowV_at _ _ hi]⟩
  · have ho : (Value.slice A os.length c).ownBlock = some ad.block := by rw [e]; rfl
    obtain ⟨j, hj, h2⟩ := h2
    obtain ⟨i1, o1⟩ := Kd.R_own h.out.arr
    obtain ⟨i2, o2⟩ := Kd.R_own (h.out.rows.mine j hj)
    exact ne_types o1 o2 (by decide) _ ho h2
theorem Tabs.fr {w w' : World} (h : Tabs w) (hf : Fr No w w') : Tabs w' := ⟨fun W h2 => h.k W (hf.then_ h2), fun W h2 => h.f W (hf.then_ h2), fun W h2 => h.s W (hf.then_ h2)⟩
theorem litO (W : World) (s : Slc) : KV.C (W.alloc (.cells #[slcV s] 34)) (some ⟨W.heap.size, 0, none⟩) 1 [s] := by
  refine Kd.C_of_reads (d := s) ⟨rfl, by decide, fun _ => ⟨_, rfl, fun j hj => ?_⟩⟩
  obtain rfl : j = 0 := by omega
  rw [add_plain, World.cell?_alloc_mark]
  simp
theorem run_build6 (w : World) (A1 A2 A3 A4 A5 A6 : Option Addr) (n1 n2 n3 n4 n5 n6 c1 c2 c3 c4 c5 c6 : Nat) :
    (Instr.buildSlice 34 6 #[(0, .slice A1 n1 c1), (1, .slice A2 n2 c2), (2, .slice A3 n3 c3), (3, .slice A4 n4 c4), (4, .slice A5 n5 c5), (5, .slice A6 n6 c6)]).run Tryd.prog w = .ok (.slice (some ⟨w.heap.size, 0, none⟩) 6 6) (w.alloc (.cells #[.slice A1 n1 c1, .slice A2 n2 c2, .slice A3 n3 c3, .slice A4 n4 c4, .slice A5 n5 c5, .slice A6 n6 c6] 22)) := by
  obtain ⟨i, hi, hzz⟩ := Option.map_eq_some_iff.1 infoRow
  simp only [Prod.mk.injEq] at hzz
  obtain ⟨hz0, hz1, hz2⟩ := hzz
  refine run_buildSlice w _ _ 6 _ _ i _ Tryd.underlying34 hi hz0 (by rw [hz1]; decide) (by rw [hz1]; decide) ?_
  rw [hz1]
  have h0 : (Array.range (6 * 1)).map (fun x => (Value.slice none 0 0).cells[x % (Value.slice none 0 0).cells.size]!) = #[.slice none 0 0, .slice none 0 0, .slice none 0 0, .slice none 0 0, .slice none 0 0, .slice none 0 0] := by kernel_rfl
  rw [h0]
  simp [Instr.fill, Value.cells]
theorem wp_build6 {o : Oper} {a : Act} {w : World} {K : Act → World → Prop} {Q : Exit → Act → World → Prop} {t1 t2 t3 t4 t5 t6 : Nat} {A1 A2 A3 A4 A5 A6 : Option Addr} {n1 n2 n3 n4 n5 n6 c1 c2 c3 c4 c5 c6 : Nat} (ho : o.op = .buildSlice 34 6 #[(0, .tmp t1), (1, .tmp t2), (2, .tmp t3), (3, .tmp t4), (4, .tmp t5), (5, .tmp t6)])
    (e1 : a.eval (.tmp t1) = .slice A1 n1 c1) (e2 : a.eval (.tmp t2) = .slice A2 n2 c2) (e3 : a.eval (.tmp t3) = .slice A3 n3 c3) (e4 : a.eval (.tmp t4) = .slice A4 n4 c4) (e5 : a.eval (.tmp t5) = .slice A5 n5 c5) (e6 : a.eval (.tmp t6) = .slice A6 n6 c6)
    (h : K (a.put o.dst (.slice (some ⟨w.heap.size, 0, none⟩) 6 6)) (w.alloc (.cells #[.slice A1 n1 c1, .slice A2 n2 c2, .slice A3 n3 c3, .slice A4 n4 c4, .slice A5 n5 c5, .slice A6 n6 c6] 22))) : o.wp Tryd.prog a w K Q := by
  have hp : (#[(0, Operand.tmp t1), (1, .tmp t2), (2, .tmp t3), (3, .tmp t4), (4, .tmp t5), (5, .tmp t6)] : Array (Nat × Operand)).map (fun (i, x) => (i, a.eval x)) = #[(0, .slice A1 n1 c1), (1, .slice A2 n2 c2), (2, .slice A3 n3 c3), (3, .slice A4 n4 c4), (4, .slice A5 n5 c5), (5, .slice A6 n6 c6)] := by
    simp only [List.map_toArray, List.map_cons, List.map_nil, e1, e2, e3, e4, e5, e6]
  unfold Oper.wp execOp
  simp only [ho, hp, Sem.run_bind, run_build6 w A1 A2 A3 A4 A5 A6 n1 n2 n3 n4 n5 n6 c1 c2 c3 c4 c5 c6, Result.andThen_ok]
  exact h
end Go.Proofs.YtbaeddppihjgfaaDoor.Sg
