/-
  Plain: eighths as words; how many digits they are scaled to, and what rounding leaves.
-/
import Derived.Test.YtnofoenkeoabpaaDoorH0
import Derived.Test.YtnofoenkeoabpaaDoorH1
namespace Go.Proofs.YtnofoenkeoabpaaDoor
open Go.RowKit

theorem cut_eight {m : Nat} (h : 0 < m) : Ieee.Toward.even.cut false (8 * m) 3 = m := by
  have hl : 3 ≤ (8 * m).log2 := (Nat.le_log2 (by omega)).2 (by omega)
  unfold Ieee.Toward.cut
  have e : min 3 ((8 * m).log2 + 2) = 3 := Nat.min_eq_left (by omega)
  rw [e]
  have e1 : 8 * m / (1 <<< 3) = m := by show 8 * m / 8 = m; omega
  have e2 : 8 * m % (1 <<< 3) = 0 := by show 8 * m % 8 = 0; omega
  simp only [e1, e2]
  simp
/-- An eighth of a number, as a word. -/
def eiN (n : Nat) : Nat := (n.log2 + 1019) * BIN + dig n
theorem quo_eight {n : Nat} (h0 : 0 < n) (h : n ≤ 1073741824) : floatBits .quo .f64 (FI n) (FI 8) = some (eiN n) := by
  have hn : n < 9007199254740992 := by omega
  obtain ⟨d1, d2, hl⟩ := dig_bounds h0 hn
  have hB : BIN = 4503599627370496 := by decide
  have h8 := quo_fi (m := n) (n := 8) h0 hn (by decide) (by decide)
  rw [show ((8 : Nat) : Int) = 8 from rfl] at h8
  rw [h8]
  have e8 : dig 8 = BIN := by decide
  have l8 : (8 : Nat).log2 = 3 := by decide
  have e1 : dig n * 2 ^ 54 = BIN * (4 * dig n) := by rw [hB]; omega
  rw [e8, e1, Nat.mul_div_cancel_left _ (by rw [hB]; omega), Nat.mul_mod_right, l8]
  have e2 : 2 * (4 * dig n) + ((0 : Nat) != 0).toNat = 8 * dig n := by
    show 2 * (4 * dig n) + 0 = 8 * dig n
    omega
  have hlg : (8 * dig n).log2 = 55 := by
    refine log2_of ?_ ?_
    · rw [hB] at d1; omega
    · rw [hB] at d2; omega
  rw [e2, nearest_eq false _ (by omega) rfl, word_pos, hlg]
  have hlast : max ((n.log2 : Int) - ((3 : Nat) : Int) - 55 + ((55 : Nat) : Int) - 52) (-1074) = (n.log2 : Int) - 55 := by omega
  rw [hlast, show ((n.log2 : Int) - ((3 : Nat) : Int) - 55 - ((n.log2 : Int) - 55)).toNat = 0 by omega, show ((n.log2 : Int) - 55 - ((n.log2 : Int) - ((3 : Nat) : Int) - 55)).toNat = 3 by omega,
    Nat.shiftLeft_zero, cut_eight (by omega), show ((n.log2 : Int) - 55 + 1074).toNat = n.log2 + 1019 by omega]
  have hb : eiN n ≤ INFR := by
    unfold eiN
    have h1 : (n.log2 + 1019) * BIN ≤ 1071 * BIN := Nat.mul_le_mul_right _ (by omega)
    have h2 : 1071 * BIN + 2 * BIN ≤ INFR := by decide
    omega
  show some (min (eiN n) INFR) = some (eiN n)
  rw [Nat.min_eq_left hb]
theorem quo_zero : floatBits .quo .f64 (FI 0) (FI 8) = some 0 := by kernel_rfl
theorem log_30 {n : Nat} (h0 : 0 < n) (h : n ≤ 1073741824) : n.log2 ≤ 30 := by
  have : n.log2 < 31 := (Nat.log2_lt (by omega)).2 (by omega)
  omega
/-- Its parts. -/
theorem eiN_parts {n : Nat} (h0 : 0 < n) (h : n ≤ 1073741824) : eiN n / BIN = n.log2 + 1020 ∧ eiN n % BIN = dig n - BIN ∧ eiN n < TOP := by
  have hn : n < 9007199254740992 := by omega
  obtain ⟨d1, d2, hl⟩ := dig_bounds h0 hn
  have hk := log_30 h0 h
  have hB : BIN = 4503599627370496 := by decide
  have e : eiN n = BIN * (n.log2 + 1020) + (dig n - BIN) := by
    unfold eiN
    have e' : (n.log2 + 1020) * BIN = (n.log2 + 1019) * BIN + BIN := Nat.succ_mul _ _
    rw [Nat.mul_comm BIN, e']; omega
  have hb : 0 < BIN := by decide
  refine ⟨?_, ?_, ?_⟩
  · rw [e, Nat.mul_add_div hb, Nat.div_eq_of_lt (by omega), Nat.add_zero]
  · rw [e, Nat.mul_add_mod, Nat.mod_eq_of_lt (by omega)]
  · have h1 : (n.log2 + 1019) * BIN ≤ 1049 * BIN := Nat.mul_le_mul_right _ (by omega)
    have h2 : 1049 * BIN + 2 * BIN ≤ TOP := by decide
    have h3 : eiN n = (n.log2 + 1019) * BIN + dig n := rfl
    omega

/-- How many digits are asked for; how many behind the point. -/
def digD (k : Nat) : Nat := if k < 3 then 4 else 4 + Lib.l10 (k - 2)
def expP (k : Nat) : Nat := if k < 3 then 4 else 3 + Lib.l10 (k - 2) - Lib.l10 (k - 3)
theorem scale_tab : ∀ k : Fin 31, 4 ≤ digD k.val ∧ digD k.val ≤ 12 ∧ ((expP k.val = 3 ∧ 125 * 2 ^ (k.val + 1) ≤ 10 ^ digD k.val) ∨ expP k.val = 4) := by decide +kernel
/-- The number, its first digit at the top of a word. -/
def topN (n : Nat) : Nat := n * 2 ^ (63 - n.log2)
theorem topN_bounds {n : Nat} (h0 : 0 < n) (h : n ≤ 1073741824) : 9223372036854775808 ≤ topN n ∧ topN n < 18446744073709551616 := by
  obtain ⟨b1, b2⟩ := log_bounds h0
  have hk := log_30 h0 h
  have e1 : 2 ^ n.log2 * 2 ^ (63 - n.log2) = 2 ^ 63 := by rw [← Nat.pow_add]; congr 1; omega
  have e2 : 2 ^ (n.log2 + 1) * 2 ^ (63 - n.log2) = 2 ^ 64 := by rw [← Nat.pow_add]; congr 1; omega
  refine ⟨?_, ?_⟩
  · have := Nat.mul_le_mul_right (2 ^ (63 - n.log2)) b1
    rw [e1] at this
    exact this
  · have := Nat.mul_lt_mul_of_pos_right b2 (Nat.two_pow_pos (63 - n.log2))
    rw [e2] at this
    exact this
theorem dig_top {n : Nat} (h0 : 0 < n) (h : n ≤ 1073741824) : dig n * 2048 = topN n := by
  have hk := log_30 h0 h
  unfold dig topN
  rw [Nat.mul_assoc, show (2048 : Nat) = 2 ^ 11 from rfl, ← Nat.pow_add]
  congr 2
  omega
/-- The product with a power of ten: its upper word is the number times half the power, as many places up; nothing is in the lower word. -/
theorem scale_mul {n T lp : Nat} (h0 : 0 < n) (h : n ≤ 1073741824) (hlp : lp ≤ 13) : topN n * (2 * T * 2 ^ (63 - lp)) = n * T * 2 ^ (63 - n.log2 - lp) * 18446744073709551616 := by
  have hk := log_30 h0 h
  unfold topN
  have e : (2 : Nat) ^ (63 - n.log2) * (2 * 2 ^ (63 - lp)) = 2 ^ (63 - n.log2 - lp) * 2 ^ 64 := by
    rw [← Nat.pow_succ', ← Nat.pow_add, ← Nat.pow_add]; congr 1; omega
  calc n * 2 ^ (63 - n.log2) * (2 * T * 2 ^ (63 - lp)) = n * T * (2 ^ (63 - n.log2) * (2 * 2 ^ (63 - lp))) := by simp only [Nat.mul_assoc, Nat.mul_comm, Nat.mul_left_comm]
    _ = n * T * (2 ^ (63 - n.log2 - lp) * 2 ^ 64) := by rw [e]
    _ = _ := by rw [← Nat.mul_assoc]
/-- Rounding of what is whole. -/
theorem round_whole (d : Nat) : (4 * d + 1 + d % 2) / 4 = d := by omega
end Go.Proofs.YtnofoenkeoabpaaDoor
