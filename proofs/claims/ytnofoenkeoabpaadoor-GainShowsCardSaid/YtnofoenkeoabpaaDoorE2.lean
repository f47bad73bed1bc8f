/-
  Numbers with a point, plain: their places; the order of all.
-/
import Derived.Test.YtnofoenkeoabpaaDoorE1
namespace Go.Proofs.YtnofoenkeoabpaaDoor
open Go.RowKit

theorem cmp_lt (a b : Int) : ((some (compare a b) : Option Ordering) == some .lt) = decide (a < b) := by
  show ((some (compareOfLessAndEq a b) : Option Ordering) == some .lt) = _
  unfold compareOfLessAndEq
  by_cases h : a < b
  · rw [if_pos h, decide_eq_true h]; rfl
  · rw [if_neg h, decide_eq_false h]
    split <;> rfl
theorem cmp_is (a b : Int) : ((some (compare a b) : Option Ordering) == some .eq) = decide (a = b) := by
  show ((some (compareOfLessAndEq a b) : Option Ordering) == some .eq) = _
  unfold compareOfLessAndEq
  by_cases h : a < b
  · rw [if_pos h, decide_eq_false (by omega)]; rfl
  · rw [if_neg h]
    by_cases e : a = b
    · rw [if_pos e, decide_eq_true e]; rfl
    · rw [if_neg e, decide_eq_false e]; rfl
theorem cmp_gt (a b : Int) : ((some (compare a b) : Option Ordering) == some .gt) = decide (b < a) := by
  show ((some (compareOfLessAndEq a b) : Option Ordering) == some .gt) = _
  unfold compareOfLessAndEq
  by_cases h : a < b
  · rw [if_pos h, decide_eq_false (by omega)]; rfl
  · rw [if_neg h]
    by_cases e : a = b
    · rw [if_pos e, decide_eq_false (by omega)]; rfl
    · rw [if_neg e, decide_eq_true (by omega)]; rfl

def lt64 (x y : Nat) : Bool := F64.order x y == some .lt
def eq64 (x y : Nat) : Bool := F64.order x y == some .eq
def gt64 (x y : Nat) : Bool := F64.order x y == some .gt
theorem lt64_eq {x y : Nat} (hx : isn x = false) (hy : isn y = false) : lt64 x y = decide (ordI x < ordI y) := by unfold lt64; rw [order_eq hx hy, cmp_lt]
theorem eq64_eq {x y : Nat} (hx : isn x = false) (hy : isn y = false) : eq64 x y = decide (ordI x = ordI y) := by unfold eq64; rw [order_eq hx hy, cmp_is]
theorem gt64_eq {x y : Nat} (hx : isn x = false) (hy : isn y = false) : gt64 x y = decide (ordI y < ordI x) := by unfold gt64; rw [order_eq hx hy, cmp_gt]
theorem lt64_nan1 {x : Nat} (y : Nat) (hx : isn x = true) : lt64 x y = false := by unfold lt64; rw [order_nan1 y hx]; rfl
theorem lt64_nan2 (x : Nat) {y : Nat} (hy : isn y = true) : lt64 x y = false := by unfold lt64; rw [order_nan2 x hy]; rfl
theorem self64 (x : Nat) : eq64 x x = !isn x := by
  cases h : isn x with
  | true => unfold eq64; rw [order_nan1 x h]; rfl
  | false => rw [eq64_eq h h]; simp

/-- A word out of its sign and rung. -/
theorem word_of {x : Nat} (h : x < 18446744073709551616) : x = (if sgn x then TOP else 0) + rung x ∧ rung x < TOP := by
  have h0 : 0 < TOP := by decide
  have h1 := Nat.div_add_mod x TOP
  have h2 : x % TOP < TOP := Nat.mod_lt _ h0
  have h3 : x / TOP < 2 := Nat.div_lt_of_lt_mul (by unfold TOP; omega)
  unfold sgn rung
  refine ⟨?_, h2⟩
  by_cases e : x / TOP = 1
  · rw [e]
    rw [e] at h1
    simp only [show ((1 : Nat) % 2 == 1) = true from rfl, if_true]
    omega
  · have e0 : x / TOP = 0 := by
      generalize x / TOP = q at h3 e
      omega
    rw [e0]
    rw [e0] at h1
    simp only [show ((0 : Nat) % 2 == 1) = false from rfl, Bool.false_eq_true, if_false]
    omega

def clsN (x : Nat) : Nat := if isn x then 6 else if rung x = 0 then (if sgn x then 2 else 3) else if sgn x then (if rung x = INFR then 0 else 1) else (if rung x = INFR then 5 else 4)
def rankN (x : Nat) : Nat := if isn x then 18446744073709551615 else if sgn x then 18446744073709551615 - x else x + TOP
def lessN (a b : Nat) : Bool := decide (rankN a < rankN b)
theorem isn_le {x : Nat} (h : isn x = false) : rung x ≤ INFR := by unfold isn at h; simpa using h
theorem rank_eq {x : Nat} (h : x < 18446744073709551616) (hn : isn x = false) : rankN x = if sgn x then 9223372036854775807 - rung x else 9223372036854775808 + rung x := by
  obtain ⟨h1, h2⟩ := word_of h
  unfold rankN
  rw [hn]
  cases hs : sgn x with
  | true =>
    rw [hs] at h1
    simp only [if_true, Bool.false_eq_true, if_false] at h1 ⊢
    unfold TOP at h1 h2
    omega
  | false =>
    rw [hs] at h1
    simp only [Bool.false_eq_true, if_false] at h1 ⊢
    unfold TOP at h2 ⊢
    omega
theorem less_cls {a b : Nat} (ha : a < 18446744073709551616) (hb : b < 18446744073709551616) : (decide (clsN a < clsN b) || (decide (clsN a = clsN b) && lt64 a b)) = lessN a b := by
  have hI : INFR = 9218868437227405312 := rfl
  have top : ∀ x, x < 18446744073709551616 → isn x = false → rankN x < 18446744073709551615 := fun x hx hn => by
    rw [rank_eq hx hn]
    have := isn_le hn
    split <;> omega
  unfold lessN
  cases na : isn a with
  | true =>
    have ra : rankN a = 18446744073709551615 := by unfold rankN; rw [na]; rfl
    have ca : clsN a = 6 := by unfold clsN; rw [na]; rfl
    rw [lt64_nan1 b na, ra, ca, Bool.and_false, Bool.or_false, Bool.eq_iff_iff, decide_eq_true_iff, decide_eq_true_iff]
    have h1 : clsN b ≤ 6 := by
      unfold clsN
      repeat' split
      all_goals omega
    have h2 : rankN b ≤ 18446744073709551615 := by
      cases nb : isn b with
      | true => unfold rankN; rw [nb]; exact Nat.le_refl _
      | false => exact Nat.le_of_lt (top b hb nb)
    omega
  | false =>
    cases nb : isn b with
    | true =>
      have rb : rankN b = 18446744073709551615 := by unfold rankN; rw [nb]; rfl
      have cb : clsN b = 6 := by unfold clsN; rw [nb]; rfl
      have h1 : clsN a < 6 := by
        unfold clsN
        rw [na]
        simp only [Bool.false_eq_true, if_false]
        repeat' split
        all_goals omega
      rw [lt64_nan2 a nb, rb, cb, Bool.and_false, Bool.or_false, decide_eq_true h1, decide_eq_true (top a ha na)]
    | false =>
      rw [lt64_eq na nb, rank_eq ha na, rank_eq hb nb]
      have la := isn_le na
      have lb := isn_le nb
      unfold clsN ordI
      rw [na, nb, hI]
      rw [hI] at la lb
      generalize rung a = X at *
      generalize rung b = Y at *
      rw [Bool.eq_iff_iff]
      simp only [Bool.or_eq_true, Bool.and_eq_true, decide_eq_true_iff]
      cases sgn a <;> cases sgn b <;> simp only [if_true, if_false, Bool.false_eq_true]
      all_goals (repeat' split) <;> omega
end Go.Proofs.YtnofoenkeoabpaaDoor
