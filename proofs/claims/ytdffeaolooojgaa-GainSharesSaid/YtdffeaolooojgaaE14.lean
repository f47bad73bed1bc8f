/-
  Quotients of whole numbers, plain: of a number and itself it is one; of a greater one and a smaller one it stands not ahead of one.
-/
import Derived.Test.YtdffeaolooojgaaE13
namespace Go.Proofs.Ytdffeaolooojgaa
open Go.RowKit

theorem cut_zero (n : Nat) : Ieee.Toward.even.cut false n 0 = n := by
  unfold Ieee.Toward.cut
  simp [Nat.mod_one]
theorem cut_ge (n drop : Nat) : n / 2 ^ drop ≤ Ieee.Toward.even.cut false n drop := by
  have h : ∀ g m : Nat, 0 < g → g ≤ 2 ^ drop → n / 2 ^ drop ≤ n / g + m := fun g m h0 h => Nat.le_trans (Nat.div_le_div_left h h0) (Nat.le_add_right _ _)
  unfold Ieee.Toward.cut
  dsimp only
  refine h _ _ ?_ ?_
  · rw [Nat.shiftLeft_eq, Nat.one_mul]; exact Nat.two_pow_pos _
  · rw [Nat.shiftLeft_eq, Nat.one_mul]; exact Nat.pow_le_pow_right (by omega) (Nat.min_le_left _ _)

theorem nearest_eq (neg : Bool) {mag : Nat} (place : Int) (h : mag ≠ 0) {last : Int} (hl : last = max (place + mag.log2 - 52) (-1074)) :
    F64.nearest neg mag place = F64.word neg (min ((last + 1074).toNat * BIN + Ieee.Toward.even.cut neg (mag <<< (place - last).toNat) (last - place).toNat) INFR) := by
  unfold Ieee.Format.nearest
  rw [if_neg h]
  have e1 : F64.leastPlace = -1074 := by decide
  have e2 : (F64.fractionBits : Int) = 52 := by decide
  have e3 : F64.binade = BIN := by decide
  have e4 : F64.infRung = INFR := by decide
  rw [e1, e2, e3, e4, ← hl]
  dsimp only
  rw [show last - -1074 = last + 1074 by omega]
theorem word_pos (r : Nat) : F64.word false r = r := rfl

theorem log_bounds {m : Nat} (h0 : 0 < m) : 2 ^ m.log2 ≤ m ∧ m < 2 ^ (m.log2 + 1) := ⟨Nat.log2_self_le (by omega), Nat.lt_log2_self⟩

/-- What stands at one or above is so written. -/
theorem nearest_ge {mag : Nat} {place : Int} (h : mag ≠ 0) (hp : 0 ≤ place + mag.log2) : ONE ≤ F64.nearest false mag place ∧ F64.nearest false mag place ≤ INFR := by
  rw [nearest_eq false place h rfl, word_pos]
  refine ⟨?_, Nat.min_le_right _ _⟩
  obtain ⟨b1, b2⟩ := log_bounds (Nat.pos_of_ne_zero h)
  have hlast : max (place + (mag.log2 : Int) - 52) (-1074) = place + mag.log2 - 52 := by omega
  rw [hlast]
  have hk : BIN ≤ Ieee.Toward.even.cut false (mag <<< (place - (place + mag.log2 - 52)).toNat) (place + mag.log2 - 52 - place).toNat := by
    refine Nat.le_trans ?_ (cut_ge _ _)
    have hB : BIN = 2 ^ 52 := by decide
    rw [hB, Nat.shiftLeft_eq]
    by_cases h52 : 52 ≤ mag.log2
    · rw [show (place - (place + mag.log2 - 52)).toNat = 0 by omega, show (place + mag.log2 - 52 - place).toNat = mag.log2 - 52 by omega, Nat.pow_zero, Nat.mul_one, Nat.le_div_iff_mul_le (Nat.two_pow_pos _), ← Nat.pow_add, show 52 + (mag.log2 - 52) = mag.log2 by omega]
      exact b1
    · rw [show (place - (place + mag.log2 - 52)).toNat = 52 - mag.log2 by omega, show (place + mag.log2 - 52 - place).toNat = 0 by omega, Nat.pow_zero, Nat.div_one]
      have : 2 ^ 52 = 2 ^ mag.log2 * 2 ^ (52 - mag.log2) := by rw [← Nat.pow_add]; congr 1; omega
      rw [this]
      exact Nat.mul_le_mul_right _ b1
  have h1 : 1022 ≤ (place + (mag.log2 : Int) - 52 + 1074).toNat := by omega
  generalize (place + (mag.log2 : Int) - 52 + 1074).toNat = A at h1
  generalize Ieee.Toward.even.cut false (mag <<< (place - (place + mag.log2 - 52)).toNat) (place + mag.log2 - 52 - place).toNat = K at hk
  refine Nat.le_min.2 ⟨?_, by decide⟩
  have h2 : 1022 * BIN ≤ A * BIN := Nat.mul_le_mul_right _ h1
  have h3 : ONE = 1022 * BIN + BIN := by decide
  omega

/-- The full digits of a whole number. -/
def dig (m : Nat) : Nat := m * 2 ^ (52 - m.log2)
theorem dig_bounds {m : Nat} (h0 : 0 < m) (h : m < 9007199254740992) : BIN ≤ dig m ∧ dig m < 2 * BIN ∧ m.log2 ≤ 52 := by
  obtain ⟨b1, b2⟩ := log_bounds h0
  have hl : m.log2 ≤ 52 := by
    have : m.log2 < 53 := by
      refine (Nat.pow_lt_pow_iff_right (a := 2) (by omega)).1 ?_
      exact Nat.lt_of_le_of_lt b1 h
    omega
  have hB : BIN = 2 ^ 52 := by decide
  have e1 : 2 ^ m.log2 * 2 ^ (52 - m.log2) = 2 ^ 52 := by rw [← Nat.pow_add]; congr 1; omega
  have e2 : 2 ^ (m.log2 + 1) * 2 ^ (52 - m.log2) = 2 * 2 ^ 52 := by rw [← Nat.pow_add, ← Nat.pow_succ']; congr 1; omega
  refine ⟨?_, ?_, hl⟩
  · rw [hB, ← e1]; exact Nat.mul_le_mul_right _ b1
  · rw [hB, ← e2]; exact Nat.mul_lt_mul_of_pos_right b2 (Nat.two_pow_pos _)
theorem fi_eq {m : Nat} (h0 : 0 < m) (h : m < 9007199254740992) : FI m = (m.log2 + 1022) * BIN + dig m := by
  obtain ⟨d1, d2, hl⟩ := dig_bounds h0 h
  have e0 : FI m = F64.nearest false m 0 := by
    unfold FI floatOfInt FloatKind.nearest FloatKind.encode
    show F64.nearest (decide ((m : Int) < 0)) (m : Int).natAbs 0 = _
    rw [decide_eq_false (by omega), Int.natAbs_natCast]
  rw [e0, nearest_eq false 0 (by omega) rfl, word_pos]
  have hlast : max (0 + (m.log2 : Int) - 52) (-1074) = m.log2 - 52 := by omega
  rw [hlast, show ((m.log2 : Int) - 52 - 0).toNat = 0 by omega, cut_zero, show (0 - ((m.log2 : Int) - 52)).toNat = 52 - m.log2 by omega, Nat.shiftLeft_eq, show ((m.log2 : Int) - 52 + 1074).toNat = m.log2 + 1022 by omega]
  refine Nat.min_eq_left ?_
  show (m.log2 + 1022) * BIN + dig m ≤ INFR
  have h1 : (m.log2 + 1022) * BIN ≤ 1074 * BIN := Nat.mul_le_mul_right _ (by omega)
  have h2 : 1074 * BIN + 2 * BIN ≤ INFR := by decide
  omega
theorem read_high {x : Nat} (h1 : ¬ rung x < BIN) (h2 : rung x < INFR) : F64.read x = .number (sgn x) (BIN + rung x % BIN) (LEAST + (rung x / BIN - 1 : Nat)) := by
  have h1' : ¬ x % TOP < BIN := h1
  have h2' : x % TOP < INFR := h2
  show (let neg := x / TOP % 2 == 1; let r := x % TOP; if r < BIN then Ieee.Datum.number neg r F64.leastPlace else if r < INFR then .number neg (BIN + r % BIN) (F64.leastPlace + (r / BIN - 1 : Nat)) else _) = _
  simp only [h1', h2', if_true, if_false]
  rw [least_eq]
  rfl
theorem read_fi {m : Nat} (h0 : 0 < m) (h : m < 9007199254740992) : F64.read (FI m) = .number false (dig m) ((m.log2 : Int) - 52) := by
  obtain ⟨d1, d2, hl⟩ := dig_bounds h0 h
  rw [fi_eq h0 h]
  obtain ⟨R, hR⟩ : ∃ R, R = (m.log2 + 1022) * BIN + dig m := ⟨_, rfl⟩
  rw [← hR]
  have hb : 0 < BIN := by decide
  have hR2 : R = BIN * (m.log2 + 1023) + (dig m - BIN) := by
    have e : (m.log2 + 1023) * BIN = (m.log2 + 1022) * BIN + BIN := Nat.succ_mul _ _
    rw [hR, Nat.mul_comm BIN, e]; omega
  have hdiv : R / BIN = m.log2 + 1023 := by
    rw [hR2, Nat.mul_add_div hb, Nat.div_eq_of_lt (by omega), Nat.add_zero]
  have hmod : R % BIN = dig m - BIN := by
    rw [hR2, Nat.mul_add_mod, Nat.mod_eq_of_lt (by omega)]
  have hlt : R < INFR := by
    have h1 : (m.log2 + 1022) * BIN ≤ 1074 * BIN := Nat.mul_le_mul_right _ (by omega)
    have h2 : 1074 * BIN + 2 * BIN ≤ INFR := by decide
    omega
  have hge : ¬ R < BIN := by
    have : 1022 * BIN ≤ (m.log2 + 1022) * BIN := Nat.mul_le_mul_right _ (by omega)
    omega
  have htop : R < TOP := Nat.lt_trans hlt (by decide)
  have e1 : R % TOP = R := Nat.mod_eq_of_lt htop
  have e2 : R / TOP % 2 = 0 := by rw [Nat.div_eq_of_lt htop]
  have er : rung R = R := e1
  have es : sgn R = false := by unfold sgn; rw [e2]; rfl
  rw [read_high (x := R) (by rw [er]; exact hge) (by rw [er]; exact hlt), er, es, hmod, hdiv, show BIN + (dig m - BIN) = dig m by omega, show LEAST + ((m.log2 + 1023 - 1 : Nat) : Int) = (m.log2 : Int) - 52 by unfold LEAST; omega]

theorem log2_of {n k : Nat} (h1 : 2 ^ k ≤ n) (h2 : n < 2 ^ (k + 1)) : n.log2 = k := by
  have hn : n ≠ 0 := by have := Nat.two_pow_pos k; omega
  have a1 : k ≤ n.log2 := (Nat.le_log2 hn).2 h1
  have a2 : n.log2 < k + 1 := (Nat.log2_lt hn).2 h2
  omega
theorem dig_log {m : Nat} (h0 : 0 < m) (h : m < 9007199254740992) : (dig m).log2 = 52 := by
  obtain ⟨d1, d2, hl⟩ := dig_bounds h0 h
  refine log2_of ?_ ?_
  · have : BIN = 2 ^ 52 := by decide
    omega
  · have : 2 * BIN = 2 ^ 53 := by decide
    omega

theorem quo_fi {m n : Nat} (hm0 : 0 < m) (hm : m < 9007199254740992) (hn0 : 0 < n) (hn : n < 9007199254740992) :
    floatBits .quo .f64 (FI m) (FI n) = some (F64.nearest false (2 * (dig m * 2 ^ 54 / dig n) + (dig m * 2 ^ 54 % dig n != 0).toNat) ((m.log2 : Int) - n.log2 - 55)) := by
  obtain ⟨d1, _, _⟩ := dig_bounds hn0 hn
  have hd : dig n ≠ 0 := by
    have : 0 < BIN := by decide
    omega
  show ((F64.read (FI m)).quotient (F64.fractionBits + 2) (F64.read (FI n))).map F64.write = _
  rw [read_fi hm0 hm, read_fi hn0 hn]
  unfold Ieee.Datum.quotient
  dsimp only
  rw [if_neg hd, dig_log hm0 hm, dig_log hn0 hn]
  have e : F64.fractionBits + 2 + 52 - 52 = 54 := by decide
  rw [e, Nat.shiftLeft_eq]
  have e2 : ((m.log2 : Int) - 52 - ((n.log2 : Int) - 52) - ((54 : Nat) : Int) - 1) = (m.log2 : Int) - n.log2 - 55 := by omega
  rw [e2]
  rfl

theorem near55 : F64.nearest false (2 * 2 ^ 54 + ((0 : Nat) != 0).toNat) (-55) = ONE := by kernel_rfl
theorem quo_self {n : Nat} (hn0 : 0 < n) (hn : n < 9007199254740992) : floatBits .quo .f64 (FI n) (FI n) = some ONE := by
  obtain ⟨d1, _, _⟩ := dig_bounds hn0 hn
  have hd : 0 < dig n := by
    have : 0 < BIN := by decide
    omega
  rw [quo_fi hn0 hn hn0 hn, Nat.mul_div_cancel_left _ hd, Nat.mul_mod_right, show (n.log2 : Int) - n.log2 - 55 = -55 by omega, near55]
theorem quo_ge {m n : Nat} (hn0 : 0 < n) (hmn : n ≤ m) (hm : m < 9007199254740992) : ∃ r, floatBits .quo .f64 (FI m) (FI n) = some r ∧ ONE ≤ r ∧ r ≤ INFR := by
  have hm0 : 0 < m := by omega
  have hn : n < 9007199254740992 := by omega
  refine ⟨_, quo_fi hm0 hm hn0 hn, ?_⟩
  obtain ⟨d1, d2, hlm⟩ := dig_bounds hm0 hm
  obtain ⟨c1, c2, hln⟩ := dig_bounds hn0 hn
  have hd : 0 < dig n := by
    have : 0 < BIN := by decide
    omega
  have hlog : n.log2 ≤ m.log2 := (Nat.le_log2 (by omega)).2 (Nat.le_trans (log_bounds hn0).1 hmn)
  have key : 2 ^ (54 - (m.log2 - n.log2)) ≤ dig m * 2 ^ 54 / dig n := by
    rw [Nat.le_div_iff_mul_le hd]
    unfold dig
    have e1 : 2 ^ (54 - (m.log2 - n.log2)) * (n * 2 ^ (52 - n.log2)) = n * 2 ^ (106 - m.log2) := by
      rw [Nat.mul_comm, Nat.mul_assoc, ← Nat.pow_add]; congr 2; omega
    have e2 : m * 2 ^ (52 - m.log2) * 2 ^ 54 = m * 2 ^ (106 - m.log2) := by
      rw [Nat.mul_assoc, ← Nat.pow_add]; congr 2; omega
    rw [e1, e2]
    exact Nat.mul_le_mul_right _ hmn
  generalize dig m * 2 ^ 54 / dig n = q at key
  generalize (dig m * 2 ^ 54 % dig n != 0).toNat = st
  have hq : 2 ^ (55 - (m.log2 - n.log2)) ≤ 2 * q + st := by
    have : 2 ^ (55 - (m.log2 - n.log2)) = 2 * 2 ^ (54 - (m.log2 - n.log2)) := by rw [← Nat.pow_succ']; congr 1; omega
    omega
  have hq0 : 2 * q + st ≠ 0 := by have := Nat.two_pow_pos (55 - (m.log2 - n.log2)); omega
  refine nearest_ge hq0 ?_
  have := (Nat.le_log2 hq0).2 hq
  omega

theorem rank_ge {r : Nat} (h1 : ONE ≤ r) (h2 : r ≤ INFR) : rankN ONE ≤ rankN r := by
  have hr : rankN r = r + TOP := by
    have ht : r < TOP := Nat.lt_of_le_of_lt h2 (by decide)
    unfold rankN isn sgn rung
    rw [Nat.mod_eq_of_lt ht, Nat.div_eq_of_lt ht, decide_eq_false (by omega)]
    rfl
  have h1' : rankN ONE = ONE + TOP := by decide
  omega

theorem enc_ge (n : Nat) : n ≤ encLen n := by
  unfold encLen
  split <;> omega
theorem best_raw {l : List UInt8} {v : Value} (ht : txtB l = true) (hl : l.length ≤ 2000) (h : BestR [1, 2, 3] l v) : v = .tuple #[.int .i64 1, .int .i64 0] := by
  have hne : l ≠ [] := by intro e; rw [e] at ht; cases ht
  have h0 : 0 < l.length := List.length_pos_iff.2 hne
  obtain ⟨rs, i, hc, hi, rfl⟩ := h
  obtain ⟨hlen, hc⟩ := hc
  obtain ⟨r0, r1, r2, rfl⟩ : ∃ a b c, rs = [a, b, c] := by
    match rs, hlen with
    | [a, b, c], _ => exact ⟨a, b, c, rfl⟩
  have n1 : nbB 1 l = (l.length : Nat) := by unfold nbB; rw [if_pos rfl, if_pos ht]
  have q0 : r0 = ONE := by
    have := (hc 0 1 r0 rfl rfl).2
    rw [n1] at this
    rcases this with ⟨e, _⟩ | ⟨e, _⟩ | ⟨_, e⟩
    · omega
    · omega
    · have h2 := quo_self h0 (by omega)
      rcases e.2 with e | ⟨e, _⟩
      · rw [h2] at e; injection e with e; exact e.symm
      · rw [h2] at e; cases e
  have ge : ∀ (m r : Nat), l.length ≤ m → m < 9007199254740992 → QU (FI m) (FI l.length) r → rankN ONE ≤ rankN r := by
    intro m r h1 h2 h3
    obtain ⟨r', e1, e2, e3⟩ := quo_ge h0 h1 h2
    rcases h3.2 with e | ⟨e, _⟩
    · rw [e1] at e; injection e with e; rw [← e]; exact rank_ge e2 e3
    · rw [e1] at e; cases e
  have q1 : rankN ONE ≤ rankN r1 := by
    have := (hc 1 2 r1 rfl rfl).2
    have n2 : nbB 2 l = (encLen l.length : Nat) := by rw [← restL_length l.length l (Nat.le_refl _)]; rfl
    rw [n2] at this
    rcases this with ⟨e, _⟩ | ⟨e, _⟩ | ⟨_, e⟩
    · omega
    · omega
    · refine ge _ _ (enc_ge _) ?_ e
      unfold encLen
      split <;> omega
  have q2 : rankN ONE ≤ rankN r2 := by
    have := (hc 2 3 r2 rfl rfl).2
    by_cases h256 : l.length ≤ 256
    · have n3 : nbB 3 l = ((escL l).length : Nat) := if_pos h256
      rw [n3] at this
      rcases this with ⟨e, _⟩ | ⟨e, _⟩ | ⟨_, e⟩
      · omega
      · omega
      · exact ge _ _ (escL_len l).1 (by have := (escL_len l).2; omega) e
    · have n3 : nbB 3 l = -1 := if_neg h256
      rw [n3] at this
      rcases this with ⟨e, _⟩ | ⟨_, e⟩ | ⟨e, _⟩
      · omega
      · rw [e]; decide
      · omega
  have hl0 : Lst [r0, r1, r2] 0 := .inr ⟨0, r0, rfl, rfl, fun j y hy => by
    subst q0
    match j, hy with
    | 0, hy => simp at hy; subst hy; exact Nat.le_refl _
    | 1, hy => simp at hy; subst hy; exact q1
    | 2, hy => simp at hy; subst hy; exact q2
    | j + 3, hy => simp at hy, fun j y hj => by omega⟩
  obtain rfl := hi.unique hl0
  subst q0
  unfold bestV
  rw [if_neg (by omega), if_neg]
  · rfl
  · intro h
    exact absurd h.2 (by show ¬ 5 ≤ clsN ONE; decide)

theorem oks_append (a b : List UInt8) : oksB (a ++ b) = (oksB a && oksB b) := by simp [oksB]
theorem last_append (a : List UInt8) {b : List UInt8} (h : b ≠ []) : (a ++ b).getD ((a ++ b).length - 1) 0 = b.getD (b.length - 1) 0 := by
  have hb : 0 < b.length := List.length_pos_iff.2 h
  simp only [List.getD, List.length_append]
  rw [List.getElem?_append_right (by omega), show a.length + b.length - 1 - a.length = b.length - 1 by omega]
theorem txt_two {a b : List UInt8} (ha : txtB a = true) (hb : txtB b = true) : txtB (a ++ b) = true := by
  unfold txtB at *
  simp only [Bool.and_eq_true] at *
  have hne : b ≠ [] := by intro e; rw [e] at hb; exact absurd hb.2.1 (by decide)
  refine ⟨by rw [oks_append, ha.1, hb.1]; rfl, ?_, by rw [last_append a hne]; exact hb.2.2⟩
  cases a <;> cases b <;> simp_all
theorem txt_back {a b : List UInt8} (h : txtB (a ++ b) = true) (hne : b ≠ []) : txtB b = true := by
  unfold txtB at *
  simp only [Bool.and_eq_true] at *
  rw [oks_append, last_append a hne] at h
  simp only [Bool.and_eq_true] at h
  refine ⟨h.1.2, ?_, h.2.2⟩
  cases b <;> simp_all
end Go.Proofs.Ytdffeaolooojgaa
