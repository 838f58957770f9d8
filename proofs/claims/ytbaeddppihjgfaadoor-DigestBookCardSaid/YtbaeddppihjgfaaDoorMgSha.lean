/- SHA-256 over lists of bytes, plain: rounds, schedule, blocks, padding; absorbing in pieces is absorbing at once. No program. -/
import Derived.Test.YtbaeddppihjgfaaDoorW32
namespace Go.Proofs.YtbaeddppihjgfaaDoor.Sg
open Go Go.RowKit
set_option linter.unusedVariables false
structure S8 where
  a : W
  b : W
  c : W
  d : W
  e : W
  f : W
  g : W
  h : W
def kL : List W := [0x428a2f98, 0x71374491, 0xb5c0fbcf, 0xe9b5dba5, 0x3956c25b, 0x59f111f1, 0x923f82a4, 0xab1c5ed5, 0xd807aa98, 0x12835b01, 0x243185be, 0x550c7dc3, 0x72be5d74, 0x80deb1fe, 0x9bdc06a7, 0xc19bf174, 0xe49b69c1, 0xefbe4786, 0x0fc19dc6, 0x240ca1cc, 0x2de92c6f, 0x4a7484aa, 0x5cb0a9dc, 0x76f988da, 0x983e5152, 0xa831c66d, 0xb00327c8, 0xbf597fc7, 0xc6e00bf3, 0xd5a79147, 0x06ca6351, 0x14292967, 0x27b70a85, 0x2e1b2138, 0x4d2c6dfc, 0x53380d13, 0x650a7354, 0x766a0abb, 0x81c2c92e, 0x92722c85, 0xa2bfe8a1, 0xa81a664b, 0xc24b8b70, 0xc76c51a3, 0xd192e819, 0xd6990624, 0xf40e3585, 0x106aa070, 0x19a4c116, 0x1e376c08, 0x2748774c, 0x34b0bcb5, 0x391c0cb3, 0x4ed8aa4a, 0x5b9cca4f, 0x682e6ff3, 0x748f82ee, 0x78a5636f, 0x84c87814, 0x8cc70208, 0x90befffa, 0xa4506ceb, 0xbef9a3f7, 0xc67178f2]
def firstL : List W := [0x6a09e667, 0xbb67ae85, 0x3c6ef372, 0xa54ff53a, 0x510e527f, 0x9b05688c, 0x1f83d9ab, 0x5be0cd19]
def S8.init : S8 := ⟨0x6a09e667, 0xbb67ae85, 0x3c6ef372, 0xa54ff53a, 0x510e527f, 0x9b05688c, 0x1f83d9ab, 0x5be0cd19⟩
def bigE (e : W) : W := (e <<< 26 ||| e >>> 6) ^^^ (e <<< 21 ||| e >>> 11) ^^^ (e <<< 7 ||| e >>> 25)
def bigA (a : W) : W := (a <<< 30 ||| a >>> 2) ^^^ (a <<< 19 ||| a >>> 13) ^^^ (a <<< 10 ||| a >>> 22)
def chW (e f g : W) : W := e &&& f ^^^ ~~~e &&& g
def majW (a b c : W) : W := a &&& b ^^^ a &&& c ^^^ b &&& c
def t1W (s : S8) (k x : W) : W := s.h + bigE s.e + chW s.e s.f s.g + k + x
def t2W (s : S8) : W := bigA s.a + majW s.a s.b s.c
def rnd (s : S8) (k x : W) : S8 := ⟨t1W s k x + t2W s, s.a, s.b, s.c, s.d + t1W s k x, s.e, s.f, s.g⟩
def sig0 (x : W) : W := (x <<< 25 ||| x >>> 7) ^^^ (x <<< 14 ||| x >>> 18) ^^^ x >>> 3
def sig1 (x : W) : W := (x <<< 15 ||| x >>> 17) ^^^ (x <<< 13 ||| x >>> 19) ^^^ x >>> 10
def wt (m : Nat → W) (t : Nat) : W :=
  if h : t < 16 then m t else wt m (t - 16) + (sig1 (wt m (t - 2)) + wt m (t - 7) + sig0 (wt m (t - 15)))
termination_by t
decreasing_by all_goals omega
theorem wt_low (m : Nat → W) (t : Nat) (h : t < 16) : wt m t = m t := by rw [wt, dif_pos h]
theorem wt_high (m : Nat → W) (t : Nat) (h : ¬ t < 16) : wt m t = wt m (t - 16) + (sig1 (wt m (t - 2)) + wt m (t - 7) + sig0 (wt m (t - 15))) := by rw [wt, dif_neg h]
def rnds (s : S8) (m : Nat → W) : Nat → S8
  | 0 => s
  | t + 1 => rnd (rnds s m t) (kL.getD t 0) (wt m t)
def addS (s v : S8) : S8 := ⟨s.a + v.a, s.b + v.b, s.c + v.c, s.d + v.d, s.e + v.e, s.f + v.f, s.g + v.g, s.h + v.h⟩
def comp (s : S8) (m : Nat → W) : S8 := addS s (rnds s m 64)
theorem wt_congr {m m' : Nat → W} (h : ∀ t, t < 16 → m t = m' t) : ∀ t, wt m t = wt m' t := by
  intro t
  induction t using Nat.strongRecOn with
  | _ t ih =>
    by_cases ht : t < 16
    · rw [wt_low _ _ ht, wt_low _ _ ht, h t ht]
    · rw [wt_high _ _ ht, wt_high _ _ ht, ih (t - 16) (by omega), ih (t - 2) (by omega), ih (t - 7) (by omega), ih (t - 15) (by omega)]
theorem rnds_congr {m m' : Nat → W} (h : ∀ t, t < 16 → m t = m' t) (s : S8) : ∀ t, rnds s m t = rnds s m' t
  | 0 => rfl
  | t + 1 => by simp only [rnds]; rw [rnds_congr h s t, wt_congr h]
theorem comp_congr {m m' : Nat → W} (h : ∀ t, t < 16 → m t = m' t) (s : S8) : comp s m = comp s m' := by unfold comp; rw [rnds_congr h]
/-! ### Blocks of bytes -/
def be4 (a b c d : UInt8) : W := b2w a <<< 24 ||| b2w b <<< 16 ||| b2w c <<< 8 ||| b2w d
def blockW (l : List UInt8) (t : Nat) : W := be4 (l.getD (4 * t) 0) (l.getD (4 * t + 1) 0) (l.getD (4 * t + 2) 0) (l.getD (4 * t + 3) 0)
theorem or_add (x y : Nat) (k : Nat) (hy : y < 2 ^ k) : (x * 2 ^ k) ||| y = x * 2 ^ k + y := by
  rw [Nat.mul_comm, Nat.two_pow_add_eq_or_of_lt hy]
theorem un_be4 (a b c d : UInt8) : un (be4 a b c d) = 256 * (256 * (256 * (a.toNat : Int) + b.toNat) + c.toNat) + d.toNat := by
  have ha := a.toNat_lt; have hb := b.toNat_lt; have hc := c.toNat_lt; have hd := d.toNat_lt
  have e : ∀ x : UInt8, (b2w x).toNat = x.toNat := fun x => by unfold b2w; rw [BitVec.toNat_ofNat, Nat.mod_eq_of_lt]; have := x.toNat_lt; omega
  unfold un be4
  simp only [BitVec.toNat_or, BitVec.toNat_shiftLeft, e, Nat.shiftLeft_eq]
  rw [Nat.mod_eq_of_lt (by omega), Nat.mod_eq_of_lt (by omega), Nat.mod_eq_of_lt (by omega)]
  have h1 : a.toNat * 2 ^ 24 ||| b.toNat * 2 ^ 16 = (a.toNat * 2 ^ 8 + b.toNat) * 2 ^ 16 := by
    rw [← or_add a.toNat b.toNat 8 hb, ← Nat.shiftLeft_eq, ← Nat.shiftLeft_eq, ← Nat.shiftLeft_eq, Nat.shiftLeft_or_distrib, ← Nat.shiftLeft_eq _ 8, ← Nat.shiftLeft_add]
  have h2 : (a.toNat * 2 ^ 8 + b.toNat) * 2 ^ 16 ||| c.toNat * 2 ^ 8 = ((a.toNat * 2 ^ 8 + b.toNat) * 2 ^ 8 + c.toNat) * 2 ^ 8 := by
    rw [← or_add (a.toNat * 2 ^ 8 + b.toNat) c.toNat 8 hc]
    generalize a.toNat * 2 ^ 8 + b.toNat = q
    rw [← Nat.shiftLeft_eq, ← Nat.shiftLeft_eq, ← Nat.shiftLeft_eq, Nat.shiftLeft_or_distrib, ← Nat.shiftLeft_eq q 8, ← Nat.shiftLeft_add]
  rw [h1, h2, or_add _ d.toNat 8 hd]
  omega
def absorb (s : S8) (l : List UInt8) : S8 :=
  if h : 64 ≤ l.length then absorb (comp s (blockW l)) (l.drop 64) else s
termination_by l.length
decreasing_by simp; omega
theorem absorb_short (s : S8) (l : List UInt8) (h : ¬ 64 ≤ l.length) : absorb s l = s := by rw [absorb, dif_neg h]
theorem absorb_long (s : S8) (l : List UInt8) (h : 64 ≤ l.length) : absorb s l = absorb (comp s (blockW l)) (l.drop 64) := by rw [absorb, dif_pos h]
def tailOf (l : List UInt8) : List UInt8 := l.drop (64 * (l.length / 64))
theorem tailOf_short (l : List UInt8) (h : ¬ 64 ≤ l.length) : tailOf l = l := by
  unfold tailOf; rw [show l.length / 64 = 0 by omega]; rfl
theorem tailOf_long (l : List UInt8) (h : 64 ≤ l.length) : tailOf l = tailOf (l.drop 64) := by
  unfold tailOf
  rw [List.length_drop, List.drop_drop, show 64 + 64 * ((l.length - 64) / 64) = 64 * (l.length / 64) by omega]
theorem tailOf_length (l : List UInt8) : (tailOf l).length = l.length % 64 := by unfold tailOf; rw [List.length_drop]; omega
theorem tailOf_lt (l : List UInt8) : (tailOf l).length < 64 := by rw [tailOf_length]; omega
theorem blockW_append (l m : List UInt8) (h : 64 ≤ l.length) (s : S8) : comp s (blockW (l ++ m)) = comp s (blockW l) := by
  refine comp_congr (fun t ht => ?_) s
  unfold blockW
  have e : ∀ i, i < l.length → (l ++ m).getD i 0 = l.getD i 0 := fun i hi => by
    simp [List.getD_eq_getElem?_getD, List.getElem?_append_left hi]
  rw [e _ (by omega), e _ (by omega), e _ (by omega), e _ (by omega)]
theorem absorb_append (l : List UInt8) : ∀ (s : S8) (m : List UInt8), absorb s (l ++ m) = absorb (absorb s l) (tailOf l ++ m) := by
  generalize hn : l.length = n
  induction n using Nat.strongRecOn generalizing l with
  | _ n ih =>
    intro s m
    by_cases h : 64 ≤ l.length
    · rw [absorb_long s (l ++ m) (by simp; omega), blockW_append l m h, List.drop_append_of_le_length h,
        ih (l.drop 64).length (by simp; omega) (l.drop 64) rfl, absorb_long s l h, ← tailOf_long l h]
    · rw [absorb_short s l h, tailOf_short l h]
theorem tailOf_append (l m : List UInt8) : tailOf (l ++ m) = tailOf (tailOf l ++ m) := by
  generalize hn : l.length = n
  induction n using Nat.strongRecOn generalizing l with
  | _ n ih =>
    by_cases h : 64 ≤ l.length
    · rw [tailOf_long (l ++ m) (by simp; omega), List.drop_append_of_le_length h, ih (l.drop 64).length (by simp; omega) (l.drop 64) rfl, ← tailOf_long l h]
    · rw [tailOf_short l h]
/-! ### Padding and the digest -/
def lenB (n : Nat) (i : Nat) : UInt8 := UInt8.ofNat (8 * n / 2 ^ (8 * i))
def len8 (n : Nat) : List UInt8 := [lenB n 7, lenB n 6, lenB n 5, lenB n 4, lenB n 3, lenB n 2, lenB n 1, lenB n 0]
def zerosOf (n : Nat) : Nat := (119 - n % 64) % 64
def padOf (n : Nat) : List UInt8 := 128 :: (List.replicate (zerosOf n) 0 ++ len8 n)
theorem padOf_length (n : Nat) : (padOf n).length = zerosOf n + 9 := by simp [padOf, len8]
theorem pad_mod (n : Nat) : (n + (padOf n).length) % 64 = 0 := by rw [padOf_length]; unfold zerosOf; omega
def outW (x : W) : List UInt8 := [UInt8.ofNat (x >>> 24).toNat, UInt8.ofNat (x >>> 16).toNat, UInt8.ofNat (x >>> 8).toNat, UInt8.ofNat x.toNat]
def S8.list (s : S8) : List W := [s.a, s.b, s.c, s.d, s.e, s.f, s.g, s.h]
def outS (s : S8) : List UInt8 := s.list.flatMap outW
theorem outS_length (s : S8) : (outS s).length = 32 := rfl
def sha (l : List UInt8) : List UInt8 := outS (absorb S8.init (l ++ padOf l.length))
theorem sha_length (l : List UInt8) : (sha l).length = 32 := rfl
end Go.Proofs.YtbaeddppihjgfaaDoor.Sg
namespace Go.Proofs.YtbaeddppihjgfaaDoor.Sg
open Go Go.RowKit
set_option linter.unusedVariables false
/-- The greatest power of two below n (n is 2 at least). -/
def cutN (n : Nat) : Nat := 2 ^ (n - 1).log2
theorem cut_pos (n : Nat) : 1 ≤ cutN n := Nat.one_le_two_pow
theorem cut_lt {n : Nat} (h : 2 ≤ n) : cutN n < n := by
  have := Nat.log2_self_le (n := n - 1) (by omega)
  unfold cutN; omega
theorem cut_half {n : Nat} (h : 2 ≤ n) : n ≤ 2 * cutN n := by
  have h1 := (Nat.log2_lt (n := n - 1) (k := (n - 1).log2 + 1) (by omega)).1 (Nat.lt_succ_self _)
  unfold cutN
  rw [Nat.pow_succ] at h1; omega
/-- What the loop ends with. -/
theorem cut_unique {n j : Nat} (h2 : 2 ≤ n) (h : 2 ^ j < n) (hn : n ≤ 2 * 2 ^ j) : 2 ^ j = cutN n := by
  unfold cutN
  rw [(Nat.log2_eq_iff (n := n - 1) (k := j) (by omega)).2 ⟨by omega, by rw [Nat.pow_succ]; omega⟩]
abbrev LL := List (List UInt8)
def treeL (ls : LL) : List UInt8 :=
  if h : ls.length < 2 then
    match ls with
    | [] => sha []
    | l :: _ => sha (0 :: l)
  else sha (1 :: (treeL (ls.take (cutN ls.length)) ++ treeL (ls.drop (cutN ls.length))))
termination_by ls.length
decreasing_by
  · have := cut_lt (n := ls.length) (by omega); simp; omega
  · have := cut_pos ls.length; simp; omega
theorem tree_nil : treeL [] = sha [] := by rw [treeL]; rfl
theorem tree_one (l : List UInt8) : treeL [l] = sha (0 :: l) := by rw [treeL]; rfl
theorem tree_more (ls : LL) (h : 2 ≤ ls.length) : treeL ls = sha (1 :: (treeL (ls.take (cutN ls.length)) ++ treeL (ls.drop (cutN ls.length)))) := by
  rw [treeL, dif_neg (by omega)]
theorem tree_length (ls : LL) : (treeL ls).length = 32 := by
  rw [treeL]
  split
  · split <;> exact sha_length _
  · exact sha_length _
def wayL (ls : LL) (at_ : Nat) : LL :=
  if h : ls.length < 2 then []
  else if at_ < cutN ls.length then wayL (ls.take (cutN ls.length)) at_ ++ [treeL (ls.drop (cutN ls.length))]
  else wayL (ls.drop (cutN ls.length)) (at_ - cutN ls.length) ++ [treeL (ls.take (cutN ls.length))]
termination_by ls.length
decreasing_by
  · have := cut_lt (n := ls.length) (by omega); simp; omega
  · have := cut_pos ls.length; simp; omega
theorem way_few (ls : LL) (a : Nat) (h : ls.length < 2) : wayL ls a = [] := by rw [wayL, dif_pos h]
theorem way_left (ls : LL) (a : Nat) (h : 2 ≤ ls.length) (ha : a < cutN ls.length) : wayL ls a = wayL (ls.take (cutN ls.length)) a ++ [treeL (ls.drop (cutN ls.length))] := by rw [wayL, dif_neg (by omega), if_pos ha]
theorem way_right (ls : LL) (a : Nat) (h : 2 ≤ ls.length) (ha : ¬ a < cutN ls.length) : wayL ls a = wayL (ls.drop (cutN ls.length)) (a - cutN ls.length) ++ [treeL (ls.take (cutN ls.length))] := by rw [wayL, dif_neg (by omega), if_neg ha]
/-- The turns of a way, the lowest first. -/
def turnsW (a n : Nat) : List Bool :=
  if h : n < 2 then []
  else if a < cutN n then turnsW a (cutN n) ++ [false]
  else turnsW (a - cutN n) (n - cutN n) ++ [true]
termination_by n
decreasing_by
  · exact cut_lt (by omega)
  · have := cut_pos n; omega
theorem turns_few (a n : Nat) (h : n < 2) : turnsW a n = [] := by rw [turnsW, dif_pos h]
theorem turns_left (a n : Nat) (h : 2 ≤ n) (ha : a < cutN n) : turnsW a n = turnsW a (cutN n) ++ [false] := by rw [turnsW, dif_neg (by omega), if_pos ha]
theorem turns_right (a n : Nat) (h : 2 ≤ n) (ha : ¬ a < cutN n) : turnsW a n = turnsW (a - cutN n) (n - cutN n) ++ [true] := by rw [turnsW, dif_neg (by omega), if_neg ha]
def stepsN (a n : Nat) : Nat := (turnsW a n).length
theorem steps_few (a n : Nat) (h : n < 2) : stepsN a n = 0 := by unfold stepsN; rw [turns_few a n h]; rfl
theorem steps_left (a n : Nat) (h : 2 ≤ n) (ha : a < cutN n) : stepsN a n = 1 + stepsN a (cutN n) := by unfold stepsN; rw [turns_left a n h ha, List.length_append, Nat.add_comm]; rfl
theorem steps_right (a n : Nat) (h : 2 ≤ n) (ha : ¬ a < cutN n) : stepsN a n = 1 + stepsN (a - cutN n) (n - cutN n) := by unfold stepsN; rw [turns_right a n h ha, List.length_append, Nat.add_comm]; rfl
theorem steps_lt (n : Nat) : ∀ a, 1 ≤ n → stepsN a n < n := by
  induction n using Nat.strongRecOn with
  | _ n ih =>
    intro a h1
    by_cases h : n < 2
    · rw [steps_few a n h]; omega
    · have c1 := cut_pos n
      have c2 := cut_lt (n := n) (by omega)
      by_cases ha : a < cutN n
      · rw [steps_left a n (by omega) ha]; have := ih (cutN n) c2 a c1; omega
      · rw [steps_right a n (by omega) ha]; have := ih (n - cutN n) (by omega) (a - cutN n) (by omega); omega
theorem way_length (ls : LL) : ∀ a, (wayL ls a).length = stepsN a ls.length := by
  generalize hn : ls.length = n
  induction n using Nat.strongRecOn generalizing ls with
  | _ n ih =>
    intro a
    by_cases h : n < 2
    · rw [way_few ls a (by omega), steps_few a n h]; rfl
    · have c1 := cut_pos n
      have c2 := cut_lt (n := n) (by omega)
      by_cases ha : a < cutN n
      · rw [way_left ls a (by omega) (by rw [hn]; exact ha), steps_left a n (by omega) ha, List.length_append, hn, ih (cutN n) c2 _ (by simp; omega)]
        simp; omega
      · rw [way_right ls a (by omega) (by rw [hn]; exact ha), steps_right a n (by omega) ha, List.length_append, hn, ih (n - cutN n) (by omega) _ (by simp; omega)]
        simp; omega
/-- One step up. -/
def stepUp (d : List UInt8) (x : Bool × List UInt8) : List UInt8 := if x.1 then sha (1 :: (x.2 ++ d)) else sha (1 :: (d ++ x.2))
/-- To what a leaf comes by a way. -/
def comeL (leaf : List UInt8) (a n : Nat) (proof : LL) : List UInt8 := ((turnsW a n).zip proof).foldl stepUp (sha (0 :: leaf))
theorem comeL_length (leaf : List UInt8) (a n : Nat) (proof : LL) : (comeL leaf a n proof).length = 32 := by
  unfold comeL
  generalize hd : sha (0 :: leaf) = d
  have hl : d.length = 32 := by rw [← hd]; exact sha_length _
  clear hd
  generalize (turnsW a n).zip proof = xs
  induction xs generalizing d with
  | nil => exact hl
  | cons x xs ih =>
    refine ih _ ?_
    unfold stepUp
    split <;> exact sha_length _
theorem come_few (leaf : List UInt8) (a n : Nat) (proof : LL) (h : n < 2) : comeL leaf a n proof = sha (0 :: leaf) := by unfold comeL; rw [turns_few a n h]; rfl
theorem come_left (leaf : List UInt8) (a n : Nat) (proof : LL) (p : List UInt8) (h : 2 ≤ n) (ha : a < cutN n) (hl : proof.length = stepsN a (cutN n)) : comeL leaf a n (proof ++ [p]) = sha (1 :: (comeL leaf a (cutN n) proof ++ p)) := by
  unfold comeL
  rw [turns_left a n h ha, List.zip_append (by rw [hl]; rfl), List.foldl_append]
  rfl
theorem come_right (leaf : List UInt8) (a n : Nat) (proof : LL) (p : List UInt8) (h : 2 ≤ n) (ha : ¬ a < cutN n) (hl : proof.length = stepsN (a - cutN n) (n - cutN n)) : comeL leaf a n (proof ++ [p]) = sha (1 :: (p ++ comeL leaf (a - cutN n) (n - cutN n) proof)) := by
  unfold comeL
  rw [turns_right a n h ha, List.zip_append (by rw [hl]; rfl), List.foldl_append]
  rfl
theorem come_way_n (n : Nat) : ∀ (ls : LL), ls.length = n → ∀ a (ha : a < ls.length), comeL ls[a] a n (wayL ls a) = treeL ls := by
  induction n using Nat.strongRecOn with
  | _ n ih =>
    intro ls hn a ha
    by_cases h : n < 2
    · have h1 : ls.length = 1 := by omega
      obtain ⟨l, rfl⟩ := List.length_eq_one_iff.1 h1
      obtain rfl : a = 0 := by simp at ha; exact ha
      rw [come_few _ _ _ _ h, tree_one]; rfl
    · have c1 := cut_pos n
      have c2 := cut_lt (n := n) (by omega)
      by_cases hc : a < cutN n
      · rw [way_left ls a (by omega) (by rw [hn]; exact hc), tree_more ls (by omega), hn, come_left _ _ _ _ _ (by omega) hc (by rw [way_length]; congr 1; simp; omega)]
        have := ih (cutN n) c2 (ls.take (cutN n)) (by simp; omega) a (by simp; omega)
        rw [List.getElem_take] at this
        rw [this]
      · rw [way_right ls a (by omega) (by rw [hn]; exact hc), tree_more ls (by omega), hn, come_right _ _ _ _ _ (by omega) hc (by rw [way_length]; congr 1; simp; omega)]
        have := ih (n - cutN n) (by omega) (ls.drop (cutN n)) (by simp; omega) (a - cutN n) (by simp; omega)
        rw [List.getElem_drop] at this
        simp only [show cutN n + (a - cutN n) = a by omega] at this
        rw [this]
/-- A leaf comes by its way to the root. -/
theorem come_way (ls : LL) (a : Nat) (ha : a < ls.length) : comeL ls[a] a ls.length (wayL ls a) = treeL ls := come_way_n _ ls rfl a ha
end Go.Proofs.YtbaeddppihjgfaaDoor.Sg
