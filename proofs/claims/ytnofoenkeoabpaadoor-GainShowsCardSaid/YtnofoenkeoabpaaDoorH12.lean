/-
  ftoa64 of any eighth.
-/
import Derived.Test.YtnofoenkeoabpaaDoorH11
import Derived.Laws.Bits64b
namespace Go.Proofs.YtnofoenkeoabpaaDoor
open Go.RowKit

/-- The word of an eighth, with its sign. -/
def sgW (neg : Bool) (x : Nat) : Nat := x + if neg then TOP else 0
theorem len53 {n : Nat} (h0 : 0 < n) (h : n ≤ 1073741824) : Lib.bitLen (dig n) = 53 := by
  have hn : n < 9007199254740992 := by omega
  obtain ⟨d1, d2, hl⟩ := dig_bounds h0 hn
  have hB : BIN = 2 ^ 52 := by decide
  have hd : dig n < 2 ^ 64 := by
    have : 2 * BIN < 2 ^ 64 := by decide
    omega
  have hd0 : dig n ≠ 0 := by
    have : 0 < BIN := by decide
    omega
  obtain ⟨a1, a2, a3⟩ := Lib.bitLenAux_bounds 64 (dig n) hd hd0
  have e1 : (2 : Nat) ^ (Lib.bitLenAux 64 (dig n) - 1) < 2 ^ 53 := by
    have : 2 * BIN = 2 ^ 53 := by decide
    omega
  have e2 : (2 : Nat) ^ 52 < 2 ^ Lib.bitLenAux 64 (dig n) := by omega
  have f1 := (Nat.pow_lt_pow_iff_right (a := 2) (by omega)).1 e1
  have f2 := (Nat.pow_lt_pow_iff_right (a := 2) (by omega)).1 e2
  show Lib.bitLenAux 64 (dig n) = 53
  omega
theorem word_parts (n : Nat) (neg : Bool) (h0 : 0 < n) (h : n ≤ 1073741824) : ∃ x s e1 ex f M : Nat, x = sgW neg (eiN n) ∧ x < 18446744073709551616 ∧ (x : Int) / 9223372036854775808 = (s : Int) ∧ ((s : Int) != 0) = neg ∧ (x : Int) / 4503599627370496 = (e1 : Int) ∧ e1 ≤ 4095 ∧
    bits BinOp.and .i64 (e1 : Int) 2047 = (ex : Int) ∧ ex = n.log2 + 1020 ∧ bits BinOp.and .u64 (x : Int) 4503599627370495 = (f : Int) ∧ bits BinOp.or .u64 (f : Int) 4503599627370496 = (M : Int) ∧ M = dig n := by
  have hn : n < 9007199254740992 := by omega
  obtain ⟨d1, d2, hl⟩ := dig_bounds h0 hn
  obtain ⟨p1, p2, p3⟩ := eiN_parts h0 h
  have hk := log_30 h0 h
  generalize eiN n = y at p1 p2 p3
  have hB : BIN = 4503599627370496 := by decide
  have hT : TOP = 9223372036854775808 := by decide
  rw [hB] at p1 p2 d1 d2
  rw [hT] at p3
  have hor : (dig n - 4503599627370496) ||| 4503599627370496 = dig n := by
    have := Nat.two_pow_add_eq_or_of_lt (i := 52) (b := dig n - 4503599627370496) (by omega) 1
    rw [Nat.mul_one, show (2 : Nat) ^ 52 = 4503599627370496 from rfl] at this
    rw [Nat.or_comm, ← this]
    omega
  have hO := bits_or_u64_nat (dig n - 4503599627370496) 4503599627370496 (by omega) (by omega)
  rw [hor] at hO
  generalize n.log2 = k at p1 hk hl
  generalize dig n = g at p2 d1 d2 hO
  cases neg
  · refine ⟨y, 0, k + 1020, k + 1020, g - 4503599627370496, g, by simp [sgW], by omega, by omega, rfl, by omega, by omega, ?_, rfl, ?_, hO, rfl⟩
    · rw [show (2047 : Int) = ((2 ^ 11 - 1 : Nat) : Int) from rfl, bits_and_mask .i64 11 (by decide)]; omega
    · rw [show (4503599627370495 : Int) = ((2 ^ 52 - 1 : Nat) : Int) from rfl, bits_and_mask .u64 52 (by decide)]; omega
  · refine ⟨y + 9223372036854775808, 1, k + 3068, k + 1020, g - 4503599627370496, g, by simp [sgW, hT], by omega, by omega, rfl, by omega, by omega, ?_, rfl, ?_, hO, rfl⟩
    · rw [show (2047 : Int) = ((2 ^ 11 - 1 : Nat) : Int) from rfl, bits_and_mask .i64 11 (by decide)]; omega
    · rw [show (4503599627370495 : Int) = ((2 ^ 52 - 1 : Nat) : Int) from rfl, bits_and_mask .u64 52 (by decide)]; omega

/-- The tables and the switch, below what is a call's own. -/
def Gl (B : Nat) (w : World) : Prop := Tab w ∧ PTab w ∧ OptV w ∧ 2 < B ∧ 3 < B ∧ 1 < B
theorem Gl.below {B : Nat} {w w' : World} (h : Gl B w) (hb : Below B w w') : Gl B w' := by
  obtain ⟨h1, h2, h3, b1, b2, b3⟩ := h
  exact ⟨h1.below hb b1, h2.below hb b2, ⟨(hb.cell (p := ⟨1, 0, none⟩) b3).trans h3.1, Nat.lt_of_lt_of_le h3.2 hb.size⟩, b1, b2, b3⟩
theorem Gl.grow {B B' : Nat} {w : World} (h : Gl B w) (hb : B ≤ B') : Gl B' w := by
  obtain ⟨h1, h2, h3, b1, b2, b3⟩ := h
  exact ⟨h1, h2, h3, by omega, by omega, by omega⟩

def shownE (n : Nat) (neg : Bool) : List UInt8 := (if neg then [45] else []) ++ (Lib.decDigits (125 * n / 1000) ++ 46 :: last3 (125 * n))
theorem l10_small {k : Nat} (h : k ≤ 3) : Lib.l10 k = 0 := by
  match k, h with
  | 0, _ => rfl
  | 1, _ => rfl
  | 2, _ => rfl
  | 3, _ => rfl
set_option maxRecDepth 10000 in
theorem ftoa_any (n : Nat) (neg : Bool) (h0 : 0 < n) (h1 : n ≤ 1073741824) (v : Value) (B : Nat) (w : World) (hG : Gl B w) (hown : OwnB w B v []) (hB : B ≤ w.heap.size) :
    Calls Tryd.prog 28 #[v, .float .f64 (sgW neg (eiN n)), .int .u8 102, .int .i64 3] w fun r w' => ∃ v', r = .returned v' ∧ OwnB w' B v' (shownE n neg) ∧ Below B w w' := by
  obtain ⟨x, s, e1, ex, f, M, hx, hx2, k1, k2, k3, k4, k5, k6, k7, k8, k9⟩ := word_parts n neg h0 h1
  rw [← hx]
  have hn : n < 9007199254740992 := by omega
  obtain ⟨d1, d2, hl⟩ := dig_bounds h0 hn
  have hk := log_30 h0 h1
  have hB52 : BIN = 4503599627370496 := by decide
  rw [hB52] at d1 d2
  obtain ⟨tb1, tb2⟩ := topN_bounds h0 h1
  have hdt := dig_top h0 h1
  obtain ⟨d4, d12, _⟩ := scale_tab ⟨n.log2, by omega⟩
  simp only at d4 d12
  have hdd : 125 * n ≤ 1000000000000 := (ar_max h1).2
  have hdp : 1 ≤ 125 * n := by omega
  have hlen := Lib.decDigits_length (125 * n)
  have hnd1 := Lib.nDigits_pos (125 * n)
  have hnd20 := Lib.nDigits_le20 (125 * n) (by omega)
  have hz := nzD_le (Lib.decDigits (125 * n))
  have hsh := shown_dec hdp
  have CB : ∀ w, Calls Tryd.prog 36 #[.int .u64 (M : Int)] w fun e w' => e = .returned (.int .i64 53) ∧ w' = w := fun w => by
    have := Tryd.bits_Len64 (M : Int) w (by omega) (by omega)
    rw [Int.toNat_natCast, k9, len53 h0 h1] at this
    rw [k9]
    exact this
  have CF : ∀ w', Below B w w' → Calls Tryd.prog 41 #[.int .u64 (topN n : Int), .int .i64 ((n.log2 : Int) - 66), .int .i64 (digD n.log2 : Int), .int .i64 3, .int .u8 102] w' fun r w'' => r = .returned (.tuple #[.int .u64 ((125 * n : Nat) : Int), .int .i64 (-3)]) ∧ Below w'.heap.size w' w'' :=
    fun w' hb => fwf_any n h0 h1 _ rfl w' (hG.below hb).1 (hG.below hb).2.1
  have CN : ∀ w', Below B w w' → Calls Tryd.prog 39 #[.int .u64 ((125 * n : Nat) : Int)] w' fun e w'' => e = .returned (.int .i64 (Lib.nDigits (125 * n) : Int)) ∧ w'' = w' :=
    fun w' hb => Tryd.internal_strconv_numDigits (125 * n) hdp (by omega) w' (hG.below hb).1.1
  have CS := fun w' b h => setDigits_any (125 * n) b (Lib.nDigits (125 * n)) w' hdd rfl (by omega) h
  have CG : ∀ w' b v, DS w B b (Lib.decDigits (125 * n)) w' v [] → Calls Tryd.prog 35 #[v, .bool neg, .slice (some ⟨b, 0, none⟩) 24 24, .int .i64 ((Lib.nDigits (125 * n) : Int) - 3), .int .i64 ((nzD (Lib.decDigits (125 * n)) : Nat) : Int), .int .i64 3, .int .u8 102, .bool false] w' fun r w'' => ∃ v', r = .returned v' ∧ DS w B b (Lib.decDigits (125 * n)) w'' v' (shownE n neg) := by
    intro w' b v hds
    by_cases h4 : 4 ≤ Lib.nDigits (125 * n)
    · have := fmtA_any w w' B b (Lib.decDigits (125 * n)) v (nzD (Lib.decDigits (125 * n))) (Lib.nDigits (125 * n) - 3) neg hds (by omega) (by omega) (by omega) (by omega) (R := shownE n neg) (by rw [hsh]; rfl)
      rw [show ((Lib.nDigits (125 * n) - 3 : Nat) : Int) = (Lib.nDigits (125 * n) : Int) - 3 by omega] at this
      exact this
    · have := fmtB_any w w' B b (Lib.decDigits (125 * n)) v (nzD (Lib.decDigits (125 * n))) (3 - Lib.nDigits (125 * n)) neg hds (by omega) (by omega) (by omega) (R := shownE n neg) (by rw [hsh]; rfl)
      rw [show -((3 - Lib.nDigits (125 * n) : Nat) : Int) = (Lib.nDigits (125 * n) : Int) - 3 by omega] at this
      exact this
  by_cases hlow : n.log2 < 3
  · have eD : digD n.log2 = 4 := if_pos hlow
    refine ftoa_walkN x s e1 ex f M (topN n) (digD n.log2) (125 * n) (Lib.nDigits (125 * n)) (nzD (Lib.decDigits (125 * n))) ((n.log2 : Int) - 3) (3 - (n.log2 : Int)) ((n.log2 : Int) - 66) ((Lib.nDigits (125 * n) : Int) - 3) 0 neg (Lib.decDigits (125 * n)) (shownE n neg) v B w
      k1 k2 k3 k4 k5 (by rw [k6, beq_eq_false_iff_ne]; omega) (by rw [k6, beq_eq_false_iff_ne]; omega) (by omega) k7 k8 (by rw [k9, beq_eq_false_iff_ne]; omega) (by omega) (by omega) (by omega) (by omega) ?_ (by rw [eD]; rfl) (by omega) (by omega) CB
      (by rw [k9]; omega) (by omega) (by omega) CF CN (fun w' b h => (CS w' b h).mono fun e w2 ⟨g1, g2, g3⟩ => ⟨g1, by rw [hlen]; exact g2, g3⟩) CG (by omega) (by rw [beq_eq_false_iff_ne]; omega) hG.2.2.1 hown hB
    intro w
    have := Tryd.internal_strconv_log10Pow2 (3 - n.log2) (by omega) w
    rw [l10_small (by omega), show ((3 - n.log2 : Nat) : Int) = 3 - (n.log2 : Int) by omega] at this
    exact this
  · have eD : digD n.log2 = 4 + Lib.l10 (n.log2 - 2) := if_neg hlow
    refine ftoa_walk x s e1 ex f M (topN n) (digD n.log2) (125 * n) (Lib.nDigits (125 * n)) (nzD (Lib.decDigits (125 * n))) ((n.log2 : Int) - 3) ((n.log2 : Int) - 2) ((n.log2 : Int) - 66) ((Lib.nDigits (125 * n) : Int) - 3) (Lib.l10 (n.log2 - 2) : Nat) neg (Lib.decDigits (125 * n)) (shownE n neg) v B w
      k1 k2 k3 k4 k5 (by rw [k6, beq_eq_false_iff_ne]; omega) (by rw [k6, beq_eq_false_iff_ne]; omega) (by omega) k7 k8 (by rw [k9, beq_eq_false_iff_ne]; omega) (by omega) (by omega) (by omega) (by omega) ?_ (by rw [eD]; omega) (by omega) (by omega) CB
      (by rw [k9]; omega) (by omega) (by omega) CF CN (fun w' b h => (CS w' b h).mono fun e w2 ⟨g1, g2, g3⟩ => ⟨g1, by rw [hlen]; exact g2, g3⟩) CG (by omega) (by rw [beq_eq_false_iff_ne]; omega) hG.2.2.1 hown hB
    intro w
    have := Tryd.internal_strconv_log10Pow2 (n.log2 - 2) (by omega) w
    rw [show ((n.log2 - 2 : Nat) : Int) = (n.log2 : Int) - 2 by omega] at this
    exact this
end Go.Proofs.YtnofoenkeoabpaaDoor
