/-
  Plain: two numbers joined by a sign: doubling, halving, quotients within 64 bits.
-/
import Derived.Test.YtpgneaekflhgnaaDoorLib
namespace Go.Proofs.YtpgneaekflhgnaaDoor
open Go.RowKit

/-! ### two numbers joined -/
def inI (x : Int) : Prop := -9223372036854775808 ≤ x ∧ x < 9223372036854775808
theorem wrap_inI (x : Int) : inI (wrap64 x) := by
  simp only [inI, wrap64]
  omega
theorem wrap_id {x : Int} (h : inI x) : wrap64 x = x := by
  obtain ⟨h1, h2⟩ := h
  simp only [wrap64]
  omega
theorem wrap_dbl (x : Int) : wrap64 (wrap64 x + wrap64 x) = wrap64 (x * 2) := by
  simp only [wrap64]
  omega
/-- A number doubled so many times. -/
def dblN (a : Int) : Nat → Int
  | 0 => a
  | k + 1 => wrap64 (dblN a k + dblN a k)
theorem dblN_eq {a : Int} (h : inI a) (k : Nat) : dblN a k = wrap64 (a * 2 ^ k) := by
  induction k with
  | zero => show a = wrap64 (a * 1); rw [Int.mul_one, wrap_id h]
  | succ k ih => rw [dblN, ih, wrap_dbl, Int.mul_assoc, ← Int.pow_succ]
def hal (x : Int) : Int := if x < 0 then -((-(x + 1)).tdiv 2) - 1 else x.tdiv 2
theorem hal_eq (x : Int) : hal x = x / 2 := by
  rw [hal]
  split
  · rw [Int.tdiv_eq_ediv_of_nonneg (by omega)]
    omega
  · rw [Int.tdiv_eq_ediv_of_nonneg (by omega)]
/-- A number halved so many times. -/
def halN (a : Int) : Nat → Int
  | 0 => a
  | k + 1 => hal (halN a k)
theorem halN_eq (a : Int) (k : Nat) : halN a k = a / 2 ^ k := by
  induction k with
  | zero => show a = a / 1; rw [Int.ediv_one]
  | succ k ih =>
    rw [halN, ih, hal_eq, Int.pow_succ]
    exact Int.ediv_ediv_of_nonneg (Int.pow_nonneg (by omega))
theorem halN_in {a : Int} (h : inI a) (k : Nat) : inI (halN a k) := by
  induction k with
  | zero => exact h
  | succ k ih =>
    rw [halN, hal_eq]
    obtain ⟨h1, h2⟩ := ih
    exact ⟨by omega, by omega⟩
theorem neg_one_quo (a : Int) : wrap64 (a.tdiv (-1)) = wrap64 (-a) := by
  rw [Int.tdiv_neg, Int.tdiv_one]
theorem quo_in {a b : Int} (ha : inI a) (hb0 : b ≠ 0) (hb : b ≠ -1) : inI (a.tdiv b) := by
  obtain ⟨h1, h2⟩ := ha
  have hn : (a.tdiv b).natAbs = a.natAbs / b.natAbs := Int.natAbs_tdiv a b
  by_cases hq : b.natAbs = 1
  · have : b = 1 := by omega
    subst this
    rw [Int.tdiv_one]
    exact ⟨h1, h2⟩
  · have h3 : 2 ≤ b.natAbs := by omega
    have h4 : a.natAbs / b.natAbs ≤ a.natAbs / 2 := Nat.div_le_div_left h3 (by omega)
    refine ⟨?_, ?_⟩ <;> omega
theorem rem_eq {a b : Int} (ha : inI a) (hb0 : b ≠ 0) (hb : b ≠ -1) : wrap64 (a - wrap64 (wrap64 (a.tdiv b) * b)) = a.tmod b := by
  have h := Int.tmod_add_mul_tdiv a b
  have hr : inI (a.tmod b) := by
    obtain ⟨h1, h2⟩ := ha
    have h3 : (a.tmod b).natAbs = a.natAbs % b.natAbs := Int.natAbs_tmod a b
    have h4 : a.natAbs % b.natAbs ≤ a.natAbs := Nat.mod_le _ _
    by_cases hz : 0 ≤ a
    · have := Int.tmod_nonneg b hz
      exact ⟨by omega, by omega⟩
    · have h5 : (-a).tmod b = -(a.tmod b) := Int.neg_tmod a b
      have h6 : 0 ≤ (-a).tmod b := Int.tmod_nonneg b (by omega)
      exact ⟨by omega, by omega⟩
  rw [wrap_id (quo_in ha hb0 hb)]
  have e : a = a.tmod b + a.tdiv b * b := by rw [Int.mul_comm (a.tdiv b) b]; exact h.symm
  have hw : ∀ x y : Int, wrap64 (x - wrap64 y) = wrap64 (x - y) := by
    intro x y
    simp only [wrap64]
    omega
  rw [hw]
  have : a - a.tdiv b * b = a.tmod b := by omega
  rw [this, wrap_id hr]

end Go.Proofs.YtpgneaekflhgnaaDoor
