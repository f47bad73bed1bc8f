/-
  Quotients of whole numbers and numbers with the other sign, plain: lines of E14 and E16.
-/
import Derived.Test.YtnofoenkeoabpaaDoorE11
namespace Go.Proofs.YtnofoenkeoabpaaDoor
open Go.RowKit

theorem cut_zero (n : Nat) : Ieee.Toward.even.cut false n 0 = n := by
  unfold Ieee.Toward.cut
  simp [Nat.mod_one]
theorem cut_ge (n drop : Nat) : n / 2 ^ drop ≤ Ieee.Toward.even.cut false n drop := by
  have h : ∀ g m : Nat, 0 < g → g ≤ 2 ^ drop → n / 2 ^ drop ≤ n / g + m := fun g m h0 h => Nat.le_trans (Nat.div_le_div_left h h0) (Nat.le_add_right _ _)
  unfold Ieee.Toward.cut
  dsimp only
  refine h _ _ ?_ ?_
  · rw [Nat.shiftLeft_eq, Nat.one_mul]; exact Nat.two_pow_pos _
  · rw [Nat.shiftLeft_eq, Nat.one_mul]; exact Nat.pow_le_pow_right (by omega) (Nat.min_le_left _ _)

theorem nearest_eq (neg : Bool) {mag : Nat} (place : Int) (h : mag ≠ 0) {last : Int} (hl : last = max (place + mag.log2 - 52) (-1074)) :
    F64.nearest neg mag place = F64.word neg (min ((last + 1074).toNat * BIN + Ieee.Toward.even.cut neg (mag <<< (place - last).toNat) (last - place).toNat) INFR) := by
  unfold Ieee.Format.nearest
  rw [if_neg h]
  have e1 : F64.leastPlace = -1074 := by decide
  have e2 : (F64.fractionBits : Int) = 52 := by decide
  have e3 : F64.binade = BIN := by decide
  have e4 : F64.infRung = INFR := by decide
  rw [e1, e2, e3, e4, ← hl]
  dsimp only
  rw [show last - -1074 = last + 1074 by omega]
theorem word_pos (r : Nat) : F64.word false r = r := rfl

theorem log_bounds {m : Nat} (h0 : 0 < m) : 2 ^ m.log2 ≤ m ∧ m < 2 ^ (m.log2 + 1) := ⟨Nat.log2_self_le (by omega), Nat.lt_log2_self⟩

/-- What stands at one or above is so written. -/
theorem nearest_ge {mag : Nat} {place : Int} (h : mag ≠ 0) (hp : 0 ≤ place + mag.log2) : ONE ≤ F64.nearest false mag place ∧ F64.nearest false mag place ≤ INFR := by
  rw [nearest_eq false place h rfl, word_pos]
  refine ⟨?_, Nat.min_le_right _ _⟩
  obtain ⟨b1, b2⟩ := log_bounds (Nat.pos_of_ne_zero h)
  have hlast : max (place + (mag.log2 : Int) - 52) (-1074) = place + mag.log2 - 52 := by omega
  rw [hlast]
  have hk : BIN ≤ Ieee.Toward.even.cut false (mag <<< (place - (place + mag.log2 - 52)).toNat) (place + mag.log2 - 52 - place).toNat := by
    refine Nat.le_trans ?_ (cut_ge _ _)
    have hB : BIN = 2 ^ 52 := by decide
    rw [hB, Nat.shiftLeft_eq]
    by_cases h52 : 52 ≤ mag.log2
    · rw [show (place - (place + mag.log2 - 52)).toNat = 0 by omega, show (place + mag.log2 - 52 - place).toNat = mag.log2 - 52 by omega, Nat.pow_zero, Nat.mul_one, Nat.le_div_iff_mul_le (Nat.two_pow_pos _), ← Nat.pow_add, show 52 + (mag.log2 - 52) = mag.log2 by omega]
      exact b1
    · rw [show (place - (place + mag.log2 - 52)).toNat = 52 - mag.log2 by omega, show (place + mag.log2 - 52 - place).toNat = 0 by omega, Nat.pow_zero, Nat.div_one]
      have : 2 ^ 52 = 2 ^ mag.log2 * 2 ^ (52 - mag.log2) := by rw [← Nat.pow_add]; congr 1; omega
      rw [this]
      exact Nat.mul_le_mul_right _ b1
  have h1 : 1022 ≤ (place + (mag.log2 : Int) - 52 + 1074).toNat := by omega
  generalize (place + (mag.log2 : Int) - 52 + 1074).toNat = A at h1
  generalize Ieee.Toward.even.cut false (mag <<< (place - (place + mag.log2 - 52)).toNat) (place + mag.log2 - 52 - place).toNat = K at hk
  refine Nat.le_min.2 ⟨?_, by decide⟩
  have h2 : 1022 * BIN ≤ A * BIN := Nat.mul_le_mul_right _ h1
  have h3 : ONE = 1022 * BIN + BIN := by decide
  omega

/-- The full digits of a whole number. -/
def dig (m : Nat) : Nat := m * 2 ^ (52 - m.log2)
theorem dig_bounds {m : Nat} (h0 : 0 < m) (h : m < 9007199254740992) : BIN ≤ dig m ∧ dig m < 2 * BIN ∧ m.log2 ≤ 52 := by
  obtain ⟨b1, b2⟩ := log_bounds h0
  have hl : m.log2 ≤ 52 := by
    have : m.log2 < 53 := by
      refine (Nat.pow_lt_pow_iff_right (a := 2) (by omega)).1 ?_
      exact Nat.lt_of_le_of_lt b1 h
    omega
  have hB : BIN = 2 ^ 52 := by decide
  have e1 : 2 ^ m.log2 * 2 ^ (52 - m.log2) = 2 ^ 52 := by rw [← Nat.pow_add]; congr 1; omega
  have e2 : 2 ^ (m.log2 + 1) * 2 ^ (52 - m.log2) = 2 * 2 ^ 52 := by rw [← Nat.pow_add, ← Nat.pow_succ']; congr 1; omega
  refine ⟨?_, ?_, hl⟩
  · rw [hB, ← e1]; exact Nat.mul_le_mul_right _ b1
  · rw [hB, ← e2]; exact Nat.mul_lt_mul_of_pos_right b2 (Nat.two_pow_pos _)
theorem fi_eq {m : Nat} (h0 : 0 < m) (h : m < 9007199254740992) : FI m = (m.log2 + 1022) * BIN + dig m := by
  obtain ⟨d1, d2, hl⟩ := dig_bounds h0 h
  have e0 : FI m = F64.nearest false m 0 := by
    unfold FI floatOfInt FloatKind.nearest FloatKind.encode
    show F64.nearest (decide ((m : Int) < 0)) (m : Int).natAbs 0 = _
    rw [decide_eq_false (by omega), Int.natAbs_natCast]
  rw [e0, nearest_eq false 0 (by omega) rfl, word_pos]
  have hlast : max (0 + (m.log2 : Int) - 52) (-1074) = m.log2 - 52 := by omega
  rw [hlast, show ((m.log2 : Int) - 52 - 0).toNat = 0 by omega, cut_zero, show (0 - ((m.log2 : Int) - 52)).toNat = 52 - m.log2 by omega, Nat.shiftLeft_eq, show ((m.log2 : Int) - 52 + 1074).toNat = m.log2 + 1022 by omega]
  refine Nat.min_eq_left ?_
  show (m.log2 + 1022) * BIN + dig m ≤ INFR
  have h1 : (m.log2 + 1022) * BIN ≤ 1074 * BIN := Nat.mul_le_mul_right _ (by omega)
  have h2 : 1074 * BIN + 2 * BIN ≤ INFR := by decide
  omega
theorem read_high {x : Nat} (h1 : ¬ rung x < BIN) (h2 : rung x < INFR) : F64.read x = .number (sgn x) (BIN + rung x % BIN) (LEAST + (rung x / BIN - 1 : Nat)) := by
  have h1' : ¬ x % TOP < BIN := h1
  have h2' : x % TOP < INFR := h2
  show (let neg := x / TOP % 2 == 1; let r := x % TOP; if r < BIN then Ieee.Datum.number neg r F64.leastPlace else if r < INFR then .number neg (BIN + r % BIN) (F64.leastPlace + (r / BIN - 1 : Nat)) else _) = _
  simp only [h1', h2', if_true, if_false]
  rw [least_eq]
  rfl
theorem read_fi {m : Nat} (h0 : 0 < m) (h : m < 9007199254740992) : F64.read (FI m) = .number false (dig m) ((m.log2 : Int) - 52) := by
  obtain ⟨d1, d2, hl⟩ := dig_bounds h0 h
  rw [fi_eq h0 h]
  obtain ⟨R, hR⟩ : ∃ R, R = (m.log2 + 1022) * BIN + dig m := ⟨_, rfl⟩
  rw [← hR]
  have hb : 0 < BIN := by decide
  have hR2 : R = BIN * (m.log2 + 1023) + (dig m - BIN) := by
    have e : (m.log2 + 1023) * BIN = (m.log2 + 1022) * BIN + BIN := Nat.succ_mul _ _
    rw [hR, Nat.mul_comm BIN, e]; omega
  have hdiv : R / BIN = m.log2 + 1023 := by
    rw [hR2, Nat.mul_add_div hb, Nat.div_eq_of_lt (by omega), Nat.add_zero]
  have hmod : R % BIN = dig m - BIN := by
    rw [hR2, Nat.mul_add_mod, Nat.mod_eq_of_lt (by omega)]
  have hlt : R < INFR := by
    have h1 : (m.log2 + 1022) * BIN ≤ 1074 * BIN := Nat.mul_le_mul_right _ (by omega)
    have h2 : 1074 * BIN + 2 * BIN ≤ INFR := by decide
    omega
  have hge : ¬ R < BIN := by
    have : 1022 * BIN ≤ (m.log2 + 1022) * BIN := Nat.mul_le_mul_right _ (by omega)
    omega
  have htop : R < TOP := Nat.lt_trans hlt (by decide)
  have e1 : R % TOP = R := Nat.mod_eq_of_lt htop
  have e2 : R / TOP % 2 = 0 := by rw [Nat.div_eq_of_lt htop]
  have er : rung R = R := e1
  have es : sgn R = false := by unfold sgn; rw [e2]; rfl
  rw [read_high (x := R) (by rw [er]; exact hge) (by rw [er]; exact hlt), er, es, hmod, hdiv, show BIN + (dig m - BIN) = dig m by omega, show LEAST + ((m.log2 + 1023 - 1 : Nat) : Int) = (m.log2 : Int) - 52 by unfold LEAST; omega]

theorem log2_of {n k : Nat} (h1 : 2 ^ k ≤ n) (h2 : n < 2 ^ (k + 1)) : n.log2 = k := by
  have hn : n ≠ 0 := by have := Nat.two_pow_pos k; omega
  have a1 : k ≤ n.log2 := (Nat.le_log2 hn).2 h1
  have a2 : n.log2 < k + 1 := (Nat.log2_lt hn).2 h2
  omega
theorem dig_log {m : Nat} (h0 : 0 < m) (h : m < 9007199254740992) : (dig m).log2 = 52 := by
  obtain ⟨d1, d2, hl⟩ := dig_bounds h0 h
  refine log2_of ?_ ?_
  · have : BIN = 2 ^ 52 := by decide
    omega
  · have : 2 * BIN = 2 ^ 53 := by decide
    omega

theorem quo_fi {m n : Nat} (hm0 : 0 < m) (hm : m < 9007199254740992) (hn0 : 0 < n) (hn : n < 9007199254740992) :
    floatBits .quo .f64 (FI m) (FI n) = some (F64.nearest false (2 * (dig m * 2 ^ 54 / dig n) + (dig m * 2 ^ 54 % dig n != 0).toNat) ((m.log2 : Int) - n.log2 - 55)) := by
  obtain ⟨d1, _, _⟩ := dig_bounds hn0 hn
  have hd : dig n ≠ 0 := by
    have : 0 < BIN := by decide
    omega
  show ((F64.read (FI m)).quotient (F64.fractionBits + 2) (F64.read (FI n))).map F64.write = _
  rw [read_fi hm0 hm, read_fi hn0 hn]
  unfold Ieee.Datum.quotient
  dsimp only
  rw [if_neg hd, dig_log hm0 hm, dig_log hn0 hn]
  have e : F64.fractionBits + 2 + 52 - 52 = 54 := by decide
  rw [e, Nat.shiftLeft_eq]
  have e2 : ((m.log2 : Int) - 52 - ((n.log2 : Int) - 52) - ((54 : Nat) : Int) - 1) = (m.log2 : Int) - n.log2 - 55 := by omega
  rw [e2]
  rfl

def csign (x s : Nat) : Nat := rung x + if sgn s then TOP else 0
def negN (x : Nat) : Nat := rung x + if sgn x then 0 else TOP
theorem rung_lt (x : Nat) : rung x < TOP := Nat.mod_lt _ (by decide)
theorem rung_of {r : Nat} (b : Bool) (h : r < TOP) : rung (r + if b then TOP else 0) = r ∧ sgn (r + if b then TOP else 0) = b := by
  unfold rung sgn
  have ht : 0 < TOP := by decide
  cases b
  · simp only [Bool.false_eq_true, if_false, Nat.add_zero]
    rw [Nat.mod_eq_of_lt h, Nat.div_eq_of_lt h]
    exact ⟨rfl, rfl⟩
  · simp only [if_true]
    rw [Nat.add_mod_right, Nat.mod_eq_of_lt h, Nat.add_div_right _ ht, Nat.div_eq_of_lt h]
    exact ⟨rfl, rfl⟩
theorem csign_lt (x s : Nat) : csign x s < 18446744073709551616 := by
  have := rung_lt x
  unfold csign
  unfold TOP at *
  split <;> omega
theorem csign_rung (x s : Nat) : rung (csign x s) = rung x := (rung_of (sgn s) (rung_lt x)).1
theorem csign_sgn (x s : Nat) : sgn (csign x s) = sgn s := (rung_of (sgn s) (rung_lt x)).2
theorem csign_isn (x s : Nat) : isn (csign x s) = isn x := by unfold isn; rw [csign_rung]
theorem csign_same {x s : Nat} (hx : x < 18446744073709551616) (h : sgn s = sgn x) : csign x s = x := by
  have := (word_of hx).1
  unfold csign
  rw [h]
  omega
theorem csign_other {x s : Nat} (h : ¬ sgn s = sgn x) : csign x s = negN x := by
  unfold csign negN
  cases h1 : sgn s <;> cases h2 : sgn x <;> simp_all
theorem neg_eq {x : Nat} (hx : x < 18446744073709551616) : Op.negFloat .f64 x = negN x := by
  show x ^^^ 2 ^ 63 = negN x
  obtain ⟨h1, h2⟩ := word_of hx
  obtain ⟨r, hr⟩ : ∃ r, r = rung x := ⟨_, rfl⟩
  unfold negN
  rw [← hr] at h1 h2 ⊢
  have h63 : r < 2 ^ 63 := by unfold TOP at h2; exact h2
  have hor : TOP + r = 2 ^ 63 ||| r := by
    have := Nat.two_pow_add_eq_or_of_lt (i := 63) h63 1
    rw [Nat.mul_one] at this
    rw [← this]; rfl
  have hb : r.testBit 63 = false := Nat.testBit_lt_two_pow h63
  cases hs : sgn x
  · rw [hs] at h1
    simp only [Bool.false_eq_true, if_false, Nat.zero_add] at h1 ⊢
    rw [h1, Nat.add_comm, hor]
    apply Nat.eq_of_testBit_eq
    intro i
    rw [Nat.testBit_xor, Nat.testBit_or, Nat.testBit_two_pow]
    by_cases hi : 63 = i
    · subst hi; rw [hb]; simp
    · rw [decide_eq_false hi]; simp
  · rw [hs] at h1
    simp only [if_true] at h1 ⊢
    rw [h1, Nat.add_zero, hor]
    apply Nat.eq_of_testBit_eq
    intro i
    rw [Nat.testBit_xor, Nat.testBit_or, Nat.testBit_two_pow]
    by_cases hi : 63 = i
    · subst hi; rw [hb]; simp
    · rw [decide_eq_false hi]; simp
theorem below_cls {x : Nat} (h : isn x = false) : clsN x ≤ 2 ↔ sgn x = true := by
  unfold clsN
  rw [h]
  cases sgn x <;> simp only [Bool.false_eq_true, if_false, if_true] <;> (repeat' split) <;> simp

theorem unary_negf {x : Nat} (hx : x < 18446744073709551616) : Op.unary .neg (.float .f64 x) = pure (.float .f64 (negN x)) := by
  rw [← neg_eq hx]; rfl
end Go.Proofs.YtnofoenkeoabpaaDoor
