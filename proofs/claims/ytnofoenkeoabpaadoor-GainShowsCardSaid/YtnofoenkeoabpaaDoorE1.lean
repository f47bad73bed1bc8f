/-
  Numbers with a point, plain: a word's sign and rung; how two words stand to each other.
-/
import Derived.Test.YtnofoenkeoabpaaDoorLib
import Derived.Laws.Cover2
import Derived.Laws.FloatArith
namespace Go.Proofs.YtnofoenkeoabpaaDoor
open Go.RowKit

def TOP : Nat := 9223372036854775808
def INFR : Nat := 9218868437227405312
def BIN : Nat := 4503599627370496
/-- The sign of a word, its rung. -/
def sgn (x : Nat) : Bool := x / TOP % 2 == 1
def rung (x : Nat) : Nat := x % TOP
def isn (x : Nat) : Bool := decide (INFR < rung x)
def ordI (x : Nat) : Int := if sgn x then -(rung x : Int) else rung x
/-- The whole number that a finite rung stands for, in units of the least place. -/
def magN (r : Nat) : Nat := if r < BIN then r else (BIN + r % BIN) * 2 ^ (r / BIN - 1)

theorem magN_low {r : Nat} (h : r < BIN) : magN r = r := if_pos h
theorem magN_high {r : Nat} (h : ¬ r < BIN) : magN r = (BIN + r % BIN) * 2 ^ (r / BIN - 1) := if_neg h
theorem magN_lt_pow {r k : Nat} (h : r < BIN * (k + 1)) : magN r < BIN * 2 ^ k := by
  have hb : 0 < BIN := by decide
  by_cases hl : r < BIN
  · rw [magN_low hl]
    exact Nat.lt_of_lt_of_le hl (Nat.le_mul_of_pos_right _ (Nat.two_pow_pos _))
  · rw [magN_high hl]
    have h1 : r / BIN ≤ k := by
      have : r / BIN < k + 1 := Nat.div_lt_of_lt_mul h
      omega
    have h0 : 1 ≤ r / BIN := (Nat.one_le_div_iff hb).2 (by omega)
    have h2 : r % BIN < BIN := Nat.mod_lt _ hb
    have h3 : (BIN + r % BIN) * 2 ^ (r / BIN - 1) < (2 * BIN) * 2 ^ (r / BIN - 1) := Nat.mul_lt_mul_of_pos_right (by omega) (Nat.two_pow_pos _)
    have h4 : (2 * BIN) * 2 ^ (r / BIN - 1) = BIN * 2 ^ (r / BIN) := by
      rw [Nat.mul_comm 2 BIN, Nat.mul_assoc, ← Nat.pow_succ']
      congr 2
      omega
    have h5 : BIN * 2 ^ (r / BIN) ≤ BIN * 2 ^ k := Nat.mul_le_mul_left _ (Nat.pow_le_pow_right (by omega) h1)
    omega
theorem magN_ge_pow {r k : Nat} (h : BIN * (k + 1) ≤ r) : BIN * 2 ^ k ≤ magN r := by
  have hb : 0 < BIN := by decide
  have hl : ¬ r < BIN := by
    have : BIN * 1 ≤ BIN * (k + 1) := Nat.mul_le_mul_left _ (by omega)
    omega
  rw [magN_high hl]
  have h1 : k + 1 ≤ r / BIN := (Nat.le_div_iff_mul_le hb).2 (by rw [Nat.mul_comm]; exact h)
  exact Nat.mul_le_mul (by omega) (Nat.pow_le_pow_right (by omega) (by omega))
theorem magN_lt {r s : Nat} (h : r < s) : magN r < magN s := by
  have hb : 0 < BIN := by decide
  have hr := Nat.div_add_mod r BIN
  have hs := Nat.div_add_mod s BIN
  have mr := Nat.mod_lt r hb
  have ms := Nat.mod_lt s hb
  by_cases e : r / BIN = s / BIN
  · have hlt : r % BIN < s % BIN := by rw [e] at hr; omega
    by_cases hl : r < BIN
    · by_cases hl2 : s < BIN
      · rw [magN_low hl, magN_low hl2]; exact h
      · exfalso
        have h1 : r / BIN = 0 := Nat.div_eq_of_lt hl
        have h2 : 1 ≤ s / BIN := (Nat.one_le_div_iff hb).2 (by omega)
        omega
    · rw [magN_high hl, magN_high (by omega), e]
      exact Nat.mul_lt_mul_of_pos_right (by omega) (Nat.two_pow_pos _)
  · have hle : r / BIN ≤ s / BIN := Nat.div_le_div_right (by omega)
    have hlt : r / BIN < s / BIN := by omega
    have h1 : magN r < BIN * 2 ^ (r / BIN) := magN_lt_pow (by rw [Nat.mul_add]; omega)
    have h2 : BIN * 2 ^ (r / BIN) ≤ magN s := magN_ge_pow (by
      have : BIN * (r / BIN + 1) ≤ BIN * (s / BIN) := Nat.mul_le_mul_left _ hlt
      omega)
    omega
theorem magN_lt_iff {r s : Nat} : magN r < magN s ↔ r < s := by
  constructor
  · intro h
    rcases Nat.lt_trichotomy r s with h1 | h1 | h1
    · exact h1
    · subst h1; omega
    · have := magN_lt h1; omega
  · exact magN_lt
theorem magN_eq_iff {r s : Nat} : magN r = magN s ↔ r = s := by
  constructor
  · intro h
    rcases Nat.lt_trichotomy r s with h1 | h1 | h1
    · have := magN_lt h1; omega
    · exact h1
    · have := magN_lt h1; omega
  · intro h; rw [h]
theorem magN_zero : magN 0 = 0 := by decide

theorem cmp_eq {a b c d : Int} (h1 : a < b ↔ c < d) (h2 : a = b ↔ c = d) : compare a b = compare c d := by
  show compareOfLessAndEq a b = compareOfLessAndEq c d
  unfold compareOfLessAndEq
  simp only [h1, h2]

/-! ### what a word reads as -/
abbrev F64 : Ieee.Format := FloatKind.f64.format
theorem read_nan {x : Nat} (h : isn x = true) : ∃ t, F64.read x = .nan (sgn x) t := by
  have h' : INFR < rung x := of_decide_eq_true h
  refine ⟨rung x - INFR, ?_⟩
  show (let neg := x / TOP % 2 == 1; let r := x % TOP; if r < BIN then Ieee.Datum.number neg r _ else if r < INFR then .number neg (BIN + r % BIN) _ else if r = INFR then .infinity neg else .nan neg (r - INFR)) = _
  have h1 : ¬ x % TOP < BIN := by
    have : BIN < INFR := by decide
    unfold rung at h'; omega
  have h2 : ¬ x % TOP < INFR := by unfold rung at h'; omega
  have h3 : ¬ x % TOP = INFR := by unfold rung at h'; omega
  simp only [h1, h2, h3, if_false]
  rfl
theorem read_inf {x : Nat} (h : rung x = INFR) : F64.read x = .infinity (sgn x) := by
  show (let neg := x / TOP % 2 == 1; let r := x % TOP; if r < BIN then Ieee.Datum.number neg r _ else if r < INFR then .number neg (BIN + r % BIN) _ else if r = INFR then .infinity neg else .nan neg (r - INFR)) = _
  have h1 : ¬ x % TOP < BIN := by
    have : BIN < INFR := by decide
    unfold rung at h; omega
  have h2 : ¬ x % TOP < INFR := by unfold rung at h; omega
  have h3 : x % TOP = INFR := h
  show (if x % TOP < BIN then _ else if x % TOP < INFR then _ else if x % TOP = INFR then _ else _) = _
  rw [if_neg h1, if_neg h2, if_pos h3]
  rfl
def LEAST : Int := -1074
theorem least_eq : F64.leastPlace = LEAST := by decide
/-- A finite word: its digits, its place above the least. -/
theorem read_fin {x : Nat} (h : rung x < INFR) : ∃ m k, F64.read x = .number (sgn x) m (LEAST + (k : Nat)) ∧ magN (rung x) = m * 2 ^ k ∧ (rung x = 0 → m = 0) := by
  by_cases h1 : rung x < BIN
  · refine ⟨rung x, 0, ?_, by rw [magN_low h1]; simp, fun h => h⟩
    have h1' : x % TOP < BIN := h1
    show (let neg := x / TOP % 2 == 1; let r := x % TOP; if r < BIN then Ieee.Datum.number neg r F64.leastPlace else _) = _
    simp only [h1', if_true]
    rw [least_eq]
    rfl
  · refine ⟨BIN + rung x % BIN, rung x / BIN - 1, ?_, magN_high h1, fun h0 => by rw [h0] at h1; exact absurd (by decide) h1⟩
    have h1' : ¬ x % TOP < BIN := h1
    have h2' : x % TOP < INFR := h
    show (let neg := x / TOP % 2 == 1; let r := x % TOP; if r < BIN then Ieee.Datum.number neg r F64.leastPlace else if r < INFR then .number neg (BIN + r % BIN) (F64.leastPlace + (r / BIN - 1 : Nat)) else _) = _
    simp only [h1', h2', if_true, if_false]
    rw [least_eq]
    rfl

theorem signed_val (s : Bool) (m u : Nat) : Ieee.signed s m u = (if s then -((m * 2 ^ u : Nat) : Int) else ((m * 2 ^ u : Nat) : Int)) := by
  unfold Ieee.signed
  rw [Nat.shiftLeft_eq]

theorem order_fin {x y : Nat} (hx : rung x < INFR) (hy : rung y < INFR) : F64.order x y = some (compare (ordI x) (ordI y)) := by
  obtain ⟨m, k, h1, h2, _⟩ := read_fin hx
  obtain ⟨n, l, h3, h4, _⟩ := read_fin hy
  unfold Ieee.Format.order
  rw [h1, h3]
  show some (compare (Ieee.signed (sgn x) m (LEAST + (k : Int) - min (LEAST + (k : Int)) (LEAST + (l : Int))).toNat) (Ieee.signed (sgn y) n (LEAST + (l : Int) - min (LEAST + (k : Int)) (LEAST + (l : Int))).toNat)) = _
  have e1 : (LEAST + (k : Int) - min (LEAST + (k : Int)) (LEAST + (l : Int))).toNat = k - min k l := by omega
  have e2 : (LEAST + (l : Int) - min (LEAST + (k : Int)) (LEAST + (l : Int))).toNat = l - min k l := by omega
  rw [e1, e2, signed_val, signed_val]
  have p : 0 < 2 ^ min k l := Nat.two_pow_pos _
  have q1 : magN (rung x) = m * 2 ^ (k - min k l) * 2 ^ min k l := by rw [h2, Nat.mul_assoc, ← Nat.pow_add]; congr 2; omega
  have q2 : magN (rung y) = n * 2 ^ (l - min k l) * 2 ^ min k l := by rw [h4, Nat.mul_assoc, ← Nat.pow_add]; congr 2; omega
  generalize m * 2 ^ (k - min k l) = A at q1
  generalize n * 2 ^ (l - min k l) = B at q2
  generalize 2 ^ min k l = P at p q1 q2
  have lt1 : A < B ↔ rung x < rung y := by rw [← magN_lt_iff (r := rung x), q1, q2]; exact (Nat.mul_lt_mul_right p).symm
  have eq1 : A = B ↔ rung x = rung y := by
    rw [← magN_eq_iff (r := rung x), q1, q2]
    exact ⟨fun h => by rw [h], fun h => Nat.eq_of_mul_eq_mul_right p h⟩
  have gt1 : B < A ↔ rung y < rung x := by rw [← magN_lt_iff (r := rung y), q1, q2]; exact (Nat.mul_lt_mul_right p).symm
  have z1 : A = 0 ↔ rung x = 0 := by
    constructor
    · intro h
      have : magN (rung x) = magN 0 := by rw [q1, h, Nat.zero_mul, magN_zero]
      exact magN_eq_iff.1 this
    · intro h
      rw [h, magN_zero] at q1
      rcases Nat.mul_eq_zero.1 q1.symm with h | h <;> omega
  have z2 : B = 0 ↔ rung y = 0 := by
    constructor
    · intro h
      have : magN (rung y) = magN 0 := by rw [q2, h, Nat.zero_mul, magN_zero]
      exact magN_eq_iff.1 this
    · intro h
      rw [h, magN_zero] at q2
      rcases Nat.mul_eq_zero.1 q2.symm with h | h <;> omega
  congr 1
  unfold ordI
  generalize rung x = X at *
  generalize rung y = Y at *
  apply cmp_eq <;> cases sgn x <;> cases sgn y <;> simp only [if_true, if_false, Bool.false_eq_true] <;> omega
theorem ordI_lt {x : Nat} : -(INFR : Int) < ordI x ∧ ordI x < INFR ↔ rung x < INFR := by
  unfold ordI
  have : 0 < INFR := by decide
  split <;> omega
/-- How two words stand to each other, neither being none. -/
theorem order_eq {x y : Nat} (hx : isn x = false) (hy : isn y = false) : F64.order x y = some (compare (ordI x) (ordI y)) := by
  have hx' : rung x ≤ INFR := by unfold isn at hx; simpa using hx
  have hy' : rung y ≤ INFR := by unfold isn at hy; simpa using hy
  have hi : 0 < INFR := by decide
  by_cases ex : rung x = INFR
  · by_cases ey : rung y = INFR
    · unfold Ieee.Format.order
      rw [read_inf ex, read_inf ey]
      show some (compare (sgn y).toNat (sgn x).toNat) = _
      unfold ordI
      rw [ex, ey]
      congr 1
      cases sgn x <;> cases sgn y <;> decide
    · have hy2 : rung y < INFR := by omega
      obtain ⟨n, l, h3, h4, _⟩ := read_fin hy2
      unfold Ieee.Format.order
      rw [read_inf ex, h3]
      show some (if sgn x then Ordering.lt else .gt) = _
      have hb := ordI_lt.2 hy2
      have hox : ordI x = if sgn x then -(INFR : Int) else INFR := by unfold ordI; rw [ex]
      congr 1
      show _ = compareOfLessAndEq _ _
      unfold compareOfLessAndEq
      rw [hox]
      cases sgn x
      · simp only [Bool.false_eq_true, if_false]
        rw [if_neg (by omega), if_neg (by omega)]
      · simp only [if_true]
        rw [if_pos (by omega)]
  · have hx2 : rung x < INFR := by omega
    by_cases ey : rung y = INFR
    · obtain ⟨n, l, h3, h4, _⟩ := read_fin hx2
      unfold Ieee.Format.order
      rw [h3, read_inf ey]
      show some (if sgn y then Ordering.gt else .lt) = _
      have hb := ordI_lt.2 hx2
      have hoy : ordI y = if sgn y then -(INFR : Int) else INFR := by unfold ordI; rw [ey]
      congr 1
      show _ = compareOfLessAndEq _ _
      unfold compareOfLessAndEq
      rw [hoy]
      cases sgn y
      · simp only [Bool.false_eq_true, if_false]
        rw [if_pos (by omega)]
      · simp only [if_true]
        rw [if_neg (by omega), if_neg (by omega)]
    · exact order_fin hx2 (by omega)
theorem order_nan1 {x : Nat} (y : Nat) (hx : isn x = true) : F64.order x y = none := by
  obtain ⟨t, h⟩ := read_nan hx
  unfold Ieee.Format.order
  rw [h]
  cases F64.read y <;> rfl
theorem order_nan2 (x : Nat) {y : Nat} (hy : isn y = true) : F64.order x y = none := by
  obtain ⟨t, h⟩ := read_nan hy
  unfold Ieee.Format.order
  rw [h]
  cases F64.read x <;> rfl
end Go.Proofs.YtnofoenkeoabpaaDoor
