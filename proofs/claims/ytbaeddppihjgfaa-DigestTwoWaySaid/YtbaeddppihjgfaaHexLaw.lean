/- Hexadecimal digits: the plain functions, and that they undo one another. No program. -/
import Derived.Test.YtbaeddppihjgfaaBase
namespace Go.Proofs.Ytbaeddppihjgfaa.Sg
open Go Go.RowKit
set_option linter.unusedVariables false
def hexD : List UInt8 := [48, 49, 50, 51, 52, 53, 54, 55, 56, 57, 97, 98, 99, 100, 101, 102]
def hexOf (n : Nat) : UInt8 := hexD.getD n 0
def hexL : List UInt8 → List UInt8
  | [] => []
  | b :: l => hexOf (b.toNat / 16) :: hexOf (b.toNat % 16) :: hexL l
theorem hexL_append (l m : List UInt8) : hexL (l ++ m) = hexL l ++ hexL m := by
  induction l with
  | nil => rfl
  | cons b l ih => simp [hexL, ih]
theorem hexL_length (l : List UInt8) : (hexL l).length = 2 * l.length := by
  induction l with
  | nil => rfl
  | cons b l ih => simp [hexL, ih]; omega
/-- Where a digit stands among the first k; none: it doesn't. -/
def posIn (c : UInt8) : Nat → Option Nat
  | 0 => none
  | k + 1 => match posIn c k with
    | some j => some j
    | none => if hexOf k = c then some k else none
def worthN (c : UInt8) : Option Nat := posIn c 16
theorem posIn_none_succ (c : UInt8) (k : Nat) (h : posIn c k = none) (hne : hexOf k ≠ c) : posIn c (k + 1) = none := by simp [posIn, h, hne]
theorem posIn_hit (c : UInt8) (k : Nat) (h : posIn c k = none) (he : hexOf k = c) : ∀ m, k < m → posIn c m = some k := by
  intro m
  induction m with
  | zero => intro h; omega
  | succ m ih =>
    intro hm
    by_cases hk : k = m
    · subst hk; simp [posIn, h, he]
    · simp [posIn, ih (by omega)]
theorem posIn_some (c : UInt8) : ∀ k j, posIn c k = some j → j < k ∧ hexOf j = c := by
  intro k
  induction k with
  | zero => intro j h; cases h
  | succ k ih =>
    intro j h
    simp only [posIn] at h
    cases hp : posIn c k with
    | some i => rw [hp] at h; cases h; have := ih _ hp; exact ⟨by omega, this.2⟩
    | none =>
      rw [hp] at h
      by_cases he : hexOf k = c
      · rw [if_pos he] at h; cases h; exact ⟨by omega, he⟩
      · rw [if_neg he] at h; cases h
theorem worthN_lt {c : UInt8} {j : Nat} (h : worthN c = some j) : j < 16 := (posIn_some c 16 j h).1
theorem worthN_hexOf : ∀ n : Fin 16, worthN (hexOf n.val) = some n.val := by decide
def two (i j : Nat) (m : List UInt8) : List UInt8 := UInt8.ofNat (16 * i + j) :: m
def unhexL : List UInt8 → Option (List UInt8)
  | [] => some []
  | [_] => none
  | x :: y :: s => (worthN x).bind fun i => (worthN y).bind fun j => (unhexL s).map (two i j)
theorem unhexL_cons (x y : UInt8) (s : List UInt8) : unhexL (x :: y :: s) = (worthN x).bind fun i => (worthN y).bind fun j => (unhexL s).map (two i j) := rfl
theorem unhexL_one (x : UInt8) : unhexL [x] = none := rfl
theorem unhexL_none (x y : UInt8) (s : List UInt8) (h : worthN x = none ∨ worthN y = none ∨ unhexL s = none) : unhexL (x :: y :: s) = none := by
  rw [unhexL_cons]
  generalize worthN x = a at *
  generalize worthN y = b at *
  generalize unhexL s = c at *
  rcases h with rfl | rfl | rfl
  · rfl
  · cases a <;> rfl
  · cases a <;> cases b <;> rfl
theorem unhexL_some {x y : UInt8} {s l : List UInt8} (h : unhexL (x :: y :: s) = some l) : ∃ i j m, worthN x = some i ∧ worthN y = some j ∧ unhexL s = some m ∧ l = two i j m := by
  rw [unhexL_cons] at h
  obtain ⟨i, h1, h2⟩ := Option.bind_eq_some_iff.1 h
  obtain ⟨j, h3, h4⟩ := Option.bind_eq_some_iff.1 h2
  obtain ⟨m, h5, h6⟩ := Option.map_eq_some_iff.1 h4
  exact ⟨i, j, m, h1, h3, h5, h6.symm⟩
theorem unhexL_mk {x y : UInt8} {s m : List UInt8} {i j : Nat} (h1 : worthN x = some i) (h2 : worthN y = some j) (h3 : unhexL s = some m) : unhexL (x :: y :: s) = some (two i j m) := by
  rw [unhexL_cons, h1, Option.bind_some, h2, Option.bind_some, h3]; rfl
theorem unhex_hex (l : List UInt8) : unhexL (hexL l) = some l := by
  induction l with
  | nil => rfl
  | cons b l ih =>
    have hb := b.toNat_lt
    have h1 := worthN_hexOf ⟨b.toNat / 16, by omega⟩
    have h2 := worthN_hexOf ⟨b.toNat % 16, by omega⟩
    rw [show hexL (b :: l) = hexOf (b.toNat / 16) :: hexOf (b.toNat % 16) :: hexL l from rfl, unhexL_mk h1 h2 ih]
    unfold two
    rw [show 16 * (b.toNat / 16) + b.toNat % 16 = b.toNat by omega]
    simp
theorem hex_unhex : ∀ (s l : List UInt8), unhexL s = some l → hexL l = s
  | [], l, h => by injection h with h; subst h; rfl
  | [x], l, h => by rw [unhexL_one] at h; cases h
  | x :: y :: s, l, h => by
    obtain ⟨i, j, m, hx, hy, hs, rfl⟩ := unhexL_some h
    have h1 := posIn_some x 16 i hx
    have h2 := posIn_some y 16 j hy
    have e : (UInt8.ofNat (16 * i + j)).toNat = 16 * i + j := by rw [UInt8.toNat_ofNat']; omega
    simp only [two, hexL, e]
    rw [show (16 * i + j) / 16 = i by omega, show (16 * i + j) % 16 = j by omega, h1.2, h2.2, hex_unhex s m hs]
theorem unhex_odd : ∀ (s : List UInt8), s.length % 2 = 1 → unhexL s = none
  | [], h => by simp at h
  | [x], _ => unhexL_one x
  | x :: y :: s, h => unhexL_none x y s (.inr (.inr (unhex_odd s (by simp at h; omega))))
/-- What the loop of Unhex holds behind so many bytes. -/
theorem unhex_go : ∀ (k : Nat) (s m : List UInt8), unhexL (s.take (2 * k)) = some m → ∀ (hk : 2 * k + 1 < s.length) (i j : Nat), worthN s[2 * k] = some i → worthN s[2 * k + 1] = some j → unhexL (s.take (2 * (k + 1))) = some (m ++ two i j [])
  | 0, x :: y :: s, m, h, hk, i, j, h1, h2 => by
    injection h with h; subst h
    exact unhexL_mk (s := s.take 0) (m := []) h1 h2 rfl
  | k + 1, x :: y :: s, m, h, hk, i, j, h1, h2 => by
    obtain ⟨a, b, n, hx, hy, hs, rfl⟩ := unhexL_some (s := s.take (2 * k)) h
    have e := unhex_go k s n hs (by simp at hk; omega) i j h1 h2
    exact unhexL_mk (s := s.take (2 * (k + 1))) hx hy e
  | k, [], m, h, hk, i, j, h1, h2 => by simp at hk
  | k, [x], m, h, hk, i, j, h1, h2 => by simp at hk
theorem unhex_stop : ∀ (k : Nat) (s m : List UInt8), unhexL (s.take (2 * k)) = some m → ∀ (hk : 2 * k + 1 < s.length), (worthN s[2 * k] = none ∨ worthN s[2 * k + 1] = none) → unhexL s = none
  | 0, x :: y :: s, m, h, hk, h1 => unhexL_none x y s (h1.elim .inl fun h => .inr (.inl h))
  | k + 1, x :: y :: s, m, h, hk, h1 => by
    obtain ⟨a, b, n, hx, hy, hs, rfl⟩ := unhexL_some (s := s.take (2 * k)) h
    exact unhexL_none x y s (.inr (.inr (unhex_stop k s n hs (by simp at hk; omega) h1)))
  | k, [], m, h, hk, h1 => by simp at hk
  | k, [x], m, h, hk, h1 => by simp at hk
end Go.Proofs.Ytbaeddppihjgfaa.Sg
