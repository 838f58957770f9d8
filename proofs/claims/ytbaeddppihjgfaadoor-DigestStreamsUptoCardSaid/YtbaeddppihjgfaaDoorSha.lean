/- SHA-256 over lists of bytes, plain: rounds, schedule, blocks, padding; absorbing in pieces is absorbing at once. No program. -/
import Derived.Test.YtbaeddppihjgfaaDoorW32
namespace Go.Proofs.YtbaeddppihjgfaaDoor.Sg
open Go Go.RowKit
set_option linter.unusedVariables false
structure S8 where
  a : W
  b : W
  c : W
  d : W
  e : W
  f : W
  g : W
  h : W
def kL : List W := [0x428a2f98, 0x71374491, 0xb5c0fbcf, 0xe9b5dba5, 0x3956c25b, 0x59f111f1, 0x923f82a4, 0xab1c5ed5, 0xd807aa98, 0x12835b01, 0x243185be, 0x550c7dc3, 0x72be5d74, 0x80deb1fe, 0x9bdc06a7, 0xc19bf174, 0xe49b69c1, 0xefbe4786, 0x0fc19dc6, 0x240ca1cc, 0x2de92c6f, 0x4a7484aa, 0x5cb0a9dc, 0x76f988da, 0x983e5152, 0xa831c66d, 0xb00327c8, 0xbf597fc7, 0xc6e00bf3, 0xd5a79147, 0x06ca6351, 0x14292967, 0x27b70a85, 0x2e1b2138, 0x4d2c6dfc, 0x53380d13, 0x650a7354, 0x766a0abb, 0x81c2c92e, 0x92722c85, 0xa2bfe8a1, 0xa81a664b, 0xc24b8b70, 0xc76c51a3, 0xd192e819, 0xd6990624, 0xf40e3585, 0x106aa070, 0x19a4c116, 0x1e376c08, 0x2748774c, 0x34b0bcb5, 0x391c0cb3, 0x4ed8aa4a, 0x5b9cca4f, 0x682e6ff3, 0x748f82ee, 0x78a5636f, 0x84c87814, 0x8cc70208, 0x90befffa, 0xa4506ceb, 0xbef9a3f7, 0xc67178f2]
def firstL : List W := [0x6a09e667, 0xbb67ae85, 0x3c6ef372, 0xa54ff53a, 0x510e527f, 0x9b05688c, 0x1f83d9ab, 0x5be0cd19]
def S8.init : S8 := ⟨0x6a09e667, 0xbb67ae85, 0x3c6ef372, 0xa54ff53a, 0x510e527f, 0x9b05688c, 0x1f83d9ab, 0x5be0cd19⟩
def bigE (e : W) : W := (e <<< 26 ||| e >>> 6) ^^^ (e <<< 21 ||| e >>> 11) ^^^ (e <<< 7 ||| e >>> 25)
def bigA (a : W) : W := (a <<< 30 ||| a >>> 2) ^^^ (a <<< 19 ||| a >>> 13) ^^^ (a <<< 10 ||| a >>> 22)
def chW (e f g : W) : W := e &&& f ^^^ ~~~e &&& g
def majW (a b c : W) : W := a &&& b ^^^ a &&& c ^^^ b &&& c
def t1W (s : S8) (k x : W) : W := s.h + bigE s.e + chW s.e s.f s.g + k + x
def t2W (s : S8) : W := bigA s.a + majW s.a s.b s.c
def rnd (s : S8) (k x : W) : S8 := ⟨t1W s k x + t2W s, s.a, s.b, s.c, s.d + t1W s k x, s.e, s.f, s.g⟩
def sig0 (x : W) : W := (x <<< 25 ||| x >>> 7) ^^^ (x <<< 14 ||| x >>> 18) ^^^ x >>> 3
def sig1 (x : W) : W := (x <<< 15 ||| x >>> 17) ^^^ (x <<< 13 ||| x >>> 19) ^^^ x >>> 10
def wt (m : Nat → W) (t : Nat) : W :=
  if h : t < 16 then m t else wt m (t - 16) + (sig1 (wt m (t - 2)) + wt m (t - 7) + sig0 (wt m (t - 15)))
termination_by t
decreasing_by all_goals omega
theorem wt_low (m : Nat → W) (t : Nat) (h : t < 16) : wt m t = m t := by rw [wt, dif_pos h]
theorem wt_high (m : Nat → W) (t : Nat) (h : ¬ t < 16) : wt m t = wt m (t - 16) + (sig1 (wt m (t - 2)) + wt m (t - 7) + sig0 (wt m (t - 15))) := by rw [wt, dif_neg h]
def rnds (s : S8) (m : Nat → W) : Nat → S8
  | 0 => s
  | t + 1 => rnd (rnds s m t) (kL.getD t 0) (wt m t)
def addS (s v : S8) : S8 := ⟨s.a + v.a, s.b + v.b, s.c + v.c, s.d + v.d, s.e + v.e, s.f + v.f, s.g + v.g, s.h + v.h⟩
def comp (s : S8) (m : Nat → W) : S8 := addS s (rnds s m 64)
theorem wt_congr {m m' : Nat → W} (h : ∀ t, t < 16 → m t = m' t) : ∀ t, wt m t = wt m' t := by
  intro t
  induction t using Nat.strongRecOn with
  | _ t ih =>
    by_cases ht : t < 16
    · rw [wt_low _ _ ht, wt_low _ _ ht, h t ht]
    · rw [wt_high _ _ ht, wt_high _ _ ht, ih (t - 16) (by omega), ih (t - 2) (by omega), ih (t - 7) (by omega), ih (t - 15) (by omega)]
theorem rnds_congr {m m' : Nat → W} (h : ∀ t, t < 16 → m t = m' t) (s : S8) : ∀ t, rnds s m t = rnds s m' t
  | 0 => rfl
  | t + 1 => by simp only [rnds]; rw [rnds_congr h s t, wt_congr h]
theorem comp_congr {m m' : Nat → W} (h : ∀ t, t < 16 → m t = m' t) (s : S8) : comp s m = comp s m' := by unfold comp; rw [rnds_congr h]
/-! ### Blocks of bytes -/
def be4 (a b c d : UInt8) : W := b2w a <<< 24 ||| b2w b <<< 16 ||| b2w c <<< 8 ||| b2w d
def blockW (l : List UInt8) (t : Nat) : W := be4 (l.getD (4 * t) 0) (l.getD (4 * t + 1) 0) (l.getD (4 * t + 2) 0) (l.getD (4 * t + 3) 0)
theorem or_add (x y : Nat) (k : Nat) (hy : y < 2 ^ k) : (x * 2 ^ k) ||| y = x * 2 ^ k + y := by
  rw [Nat.mul_comm, Nat.two_pow_add_eq_or_of_lt hy]
theorem un_be4 (a b c d : UInt8) : un (be4 a b c d) = 256 * (256 * (256 * (a.toNat : Int) + b.toNat) + c.toNat) + d.toNat := by
  have ha := a.toNat_lt; have hb := b.toNat_lt; have hc := c.toNat_lt; have hd := d.toNat_lt
  have e : ∀ x : UInt8, (b2w x).toNat = x.toNat := fun x => by unfold b2w; rw [BitVec.toNat_ofNat, Nat.mod_eq_of_lt]; have := x.toNat_lt; omega
  unfold un be4
  simp only [BitVec.toNat_or, BitVec.toNat_shiftLeft, e, Nat.shiftLeft_eq]
  rw [Nat.mod_eq_of_lt (by omega), Nat.mod_eq_of_lt (by omega), Nat.mod_eq_of_lt (by omega)]
  have h1 : a.toNat * 2 ^ 24 ||| b.toNat * 2 ^ 16 = (a.toNat * 2 ^ 8 + b.toNat) * 2 ^ 16 := by
    rw [← or_add a.toNat b.toNat 8 hb, ← Nat.shiftLeft_eq, ← Nat.shiftLeft_eq, ← Nat.shiftLeft_eq, Nat.shiftLeft_or_distrib, ← Nat.shiftLeft_eq _ 8, ← Nat.shiftLeft_add]
  have h2 : (a.toNat * 2 ^ 8 + b.toNat) * 2 ^ 16 ||| c.toNat * 2 ^ 8 = ((a.toNat * 2 ^ 8 + b.toNat) * 2 ^ 8 + c.toNat) * 2 ^ 8 := by
    rw [← or_add (a.toNat * 2 ^ 8 + b.toNat) c.toNat 8 hc]
    generalize a.toNat * 2 ^ 8 + b.toNat = q
    rw [← Nat.shiftLeft_eq, ← Nat.shiftLeft_eq, ← Nat.shiftLeft_eq, Nat.shiftLeft_or_distrib, ← Nat.shiftLeft_eq q 8, ← Nat.shiftLeft_add]
  rw [h1, h2, or_add _ d.toNat 8 hd]
  omega
def absorb (s : S8) (l : List UInt8) : S8 :=
  if h : 64 ≤ l.length then absorb (comp s (blockW l)) (l.drop 64) else s
termination_by l.length
decreasing_by simp; omega
theorem absorb_short (s : S8) (l : List UInt8) (h : ¬ 64 ≤ l.length) : absorb s l = s := by rw [absorb, dif_neg h]
theorem absorb_long (s : S8) (l : List UInt8) (h : 64 ≤ l.length) : absorb s l = absorb (comp s (blockW l)) (l.drop 64) := by rw [absorb, dif_pos h]
def tailOf (l : List UInt8) : List UInt8 := l.drop (64 * (l.length / 64))
theorem tailOf_short (l : List UInt8) (h : ¬ 64 ≤ l.length) : tailOf l = l := by
  unfold tailOf; rw [show l.length / 64 = 0 by omega]; rfl
theorem tailOf_long (l : List UInt8) (h : 64 ≤ l.length) : tailOf l = tailOf (l.drop 64) := by
  unfold tailOf
  rw [List.length_drop, List.drop_drop, show 64 + 64 * ((l.length - 64) / 64) = 64 * (l.length / 64) by omega]
theorem tailOf_length (l : List UInt8) : (tailOf l).length = l.length % 64 := by unfold tailOf; rw [List.length_drop]; omega
theorem tailOf_lt (l : List UInt8) : (tailOf l).length < 64 := by rw [tailOf_length]; omega
theorem blockW_append (l m : List UInt8) (h : 64 ≤ l.length) (s : S8) : comp s (blockW (l ++ m)) = comp s (blockW l) := by
  refine comp_congr (fun t ht => ?_) s
  unfold blockW
  have e : ∀ i, i < l.length → (l ++ m).getD i 0 = l.getD i 0 := fun i hi => by
    simp [List.getD_eq_getElem?_getD, List.getElem?_append_left hi]
  rw [e _ (by omega), e _ (by omega), e _ (by omega), e _ (by omega)]
theorem absorb_append (l : List UInt8) : ∀ (s : S8) (m : List UInt8), absorb s (l ++ m) = absorb (absorb s l) (tailOf l ++ m) := by
  generalize hn : l.length = n
  induction n using Nat.strongRecOn generalizing l with
  | _ n ih =>
    intro s m
    by_cases h : 64 ≤ l.length
    · rw [absorb_long s (l ++ m) (by simp; omega), blockW_append l m h, List.drop_append_of_le_length h,
        ih (l.drop 64).length (by simp; omega) (l.drop 64) rfl, absorb_long s l h, ← tailOf_long l h]
    · rw [absorb_short s l h, tailOf_short l h]
theorem tailOf_append (l m : List UInt8) : tailOf (l ++ m) = tailOf (tailOf l ++ m) := by
  generalize hn : l.length = n
  induction n using Nat.strongRecOn generalizing l with
  | _ n ih =>
    by_cases h : 64 ≤ l.length
    · rw [tailOf_long (l ++ m) (by simp; omega), List.drop_append_of_le_length h, ih (l.drop 64).length (by simp; omega) (l.drop 64) rfl, ← tailOf_long l h]
    · rw [tailOf_short l h]
/-! ### Padding and the digest -/
def lenB (n : Nat) (i : Nat) : UInt8 := UInt8.ofNat (8 * n / 2 ^ (8 * i))
def len8 (n : Nat) : List UInt8 := [lenB n 7, lenB n 6, lenB n 5, lenB n 4, lenB n 3, lenB n 2, lenB n 1, lenB n 0]
def zerosOf (n : Nat) : Nat := (119 - n % 64) % 64
def padOf (n : Nat) : List UInt8 := 128 :: (List.replicate (zerosOf n) 0 ++ len8 n)
theorem padOf_length (n : Nat) : (padOf n).length = zerosOf n + 9 := by simp [padOf, len8]
theorem pad_mod (n : Nat) : (n + (padOf n).length) % 64 = 0 := by rw [padOf_length]; unfold zerosOf; omega
def outW (x : W) : List UInt8 := [UInt8.ofNat (x >>> 24).toNat, UInt8.ofNat (x >>> 16).toNat, UInt8.ofNat (x >>> 8).toNat, UInt8.ofNat x.toNat]
def S8.list (s : S8) : List W := [s.a, s.b, s.c, s.d, s.e, s.f, s.g, s.h]
def outS (s : S8) : List UInt8 := s.list.flatMap outW
theorem outS_length (s : S8) : (outS s).length = 32 := rfl
def sha (l : List UInt8) : List UInt8 := outS (absorb S8.init (l ++ padOf l.length))
theorem sha_length (l : List UInt8) : (sha l).length = 32 := rfl
end Go.Proofs.YtbaeddppihjgfaaDoor.Sg
