/-
  Plain: what is shown of eighths, of nothing, of what is infinite or none.
-/
import Derived.Test.YtnofoenkeoabpaaDoorH14
namespace Go.Proofs.YtnofoenkeoabpaaDoor
open Go.RowKit

theorem negN_rung (x : Nat) : rung (negN x) = rung x ∧ sgn (negN x) = !sgn x := by
  have h := rung_lt x
  have e : negN x = rung x + if (!sgn x) then TOP else 0 := by unfold negN; cases sgn x <;> rfl
  rw [e]
  exact rung_of (!sgn x) h
theorem infB_low {x : Nat} (h : rung x < INFR) : infB x = false := by
  have hn : isn x = false := by unfold isn; rw [decide_eq_false (by omega)]
  have h1 : infB x = gt64 x MAXF := rfl
  rw [h1, gt64_eq hn isn_max, ordI_max, decide_eq_false]
  unfold ordI
  unfold INFR at h
  split <;> omega
theorem infB_high {x : Nat} (h : rung x = INFR) : infB x = !sgn x := by
  have hn : isn x = false := by unfold isn; rw [decide_eq_false (by omega)]
  have h1 : infB x = gt64 x MAXF := rfl
  rw [h1, gt64_eq hn isn_max, ordI_max]
  unfold ordI
  unfold INFR at h
  rw [h]
  cases sgn x <;> rfl
theorem sgW_parts {r : Nat} (neg : Bool) (h : r < TOP) : rung (sgW neg r) = r ∧ sgn (sgW neg r) = neg ∧ sgW neg r < 18446744073709551616 := by
  obtain ⟨h1, h2⟩ := rung_of neg h
  refine ⟨h1, h2, ?_⟩
  unfold sgW
  unfold TOP at *
  split <;> omega
theorem show_word {r : Nat} {R : List UInt8} (neg : Bool) (h : r < INFR) (hF : FtoaC (sgW neg r) R) : ShowC (sgW neg r) R := by
  have ht : r < TOP := Nat.lt_trans h (by decide)
  obtain ⟨h1, h2, h3⟩ := sgW_parts neg ht
  refine show_fin h3 ?_ (infB_low (by rw [h1]; exact h)) (infB_low (by rw [(negN_rung _).1, h1]; exact h)) hF
  unfold isn
  rw [h1, decide_eq_false (by omega)]
theorem eiN_lt {n : Nat} (h0 : 0 < n) (h : n ≤ 1073741824) : eiN n < INFR := by
  have hn : n < 9007199254740992 := by omega
  obtain ⟨d1, d2, hl⟩ := dig_bounds h0 hn
  unfold eiN
  have h1 : (n.log2 + 1019) * BIN ≤ 1071 * BIN := Nat.mul_le_mul_right _ (by omega)
  have h2 : 1071 * BIN + 2 * BIN < INFR := by decide
  omega
theorem negN_sgW {r : Nat} (h : r < TOP) : negN (sgW false r) = sgW true r := by
  obtain ⟨h1, h2, _⟩ := sgW_parts false h
  unfold negN
  rw [h1, h2]
  rfl
theorem whole_zero (neg : Bool) : shownZ neg = wholeL (125 * 0) neg := by
  cases neg
  · show [48, 46, 48, 48, 48] = [] ++ (Lib.decDigits 0 ++ _)
    rw [Lib.decDigits, dif_pos (by omega)]
    rfl
  · show [45, 48, 46, 48, 48, 48] = [45] ++ (Lib.decDigits 0 ++ _)
    rw [Lib.decDigits, dif_pos (by omega)]
    rfl
/-- An eighth, both signs. -/
theorem eighth (n : Nat) (h : n ≤ 1073741824) : ∃ y, floatBits .quo .f64 (FI n) (FI 8) = some y ∧ y < 18446744073709551616 ∧ ShowC y (wholeL (125 * n) false) ∧ ShowC (negN y) (wholeL (125 * n) true) := by
  by_cases h0 : n = 0
  · subst h0
    have hi : (0 : Nat) < INFR := by decide
    refine ⟨sgW false 0, quo_zero, by decide, ?_, ?_⟩
    · rw [← whole_zero]
      exact show_word false hi fun v B w hG ho hB => ftoaZ_any false v B w hG ho hB
    · rw [negN_sgW (by decide), ← whole_zero]
      exact show_word true hi fun v B w hG ho hB => ftoaZ_any true v B w hG ho hB
  · have hp : 0 < n := by omega
    have hi := eiN_lt hp h
    have ht : eiN n < TOP := Nat.lt_trans hi (by decide)
    have e : sgW false (eiN n) = eiN n := by simp [sgW]
    refine ⟨sgW false (eiN n), by rw [e]; exact quo_eight hp h, (sgW_parts false ht).2.2, ?_, ?_⟩
    · exact show_word false hi fun v B w hG ho hB => ftoa_any n false hp h v B w hG ho hB
    · rw [negN_sgW ht]
      exact show_word true hi fun v B w hG ho hB => ftoa_any n true hp h v B w hG ho hB

theorem cls_6 {x : Nat} (h : clsN x = 6) : isn x = true := by
  cases hn : isn x with
  | true => rfl
  | false =>
    exfalso
    unfold clsN at h
    rw [hn] at h
    simp only [Bool.false_eq_true, if_false] at h
    revert h
    (repeat' split) <;> simp
theorem cls_word {x : Nat} (hx : x < 18446744073709551616) :
    (clsN x = 6 → ShowC x noneL) ∧ (clsN x = 5 → ShowC x allL) ∧ (clsN x = 0 → ShowC x nallL) ∧ (clsN x = 2 → ShowC x (shownZ true)) := by
  refine ⟨fun h => show_none (cls_6 h), fun h => ?_, fun h => ?_, fun h => ?_⟩
  · have hn : isn x = false := by
      cases hn : isn x with
      | false => rfl
      | true => unfold clsN at h; rw [hn] at h; simp at h
    have hc := cls_inf x
    rw [h, hn] at hc
    exact show_all hn (by simpa using hc.symm)
  · cases hn : isn x with
    | true => unfold clsN at h; rw [hn] at h; simp at h
    | false =>
      unfold clsN at h
      rw [hn] at h
      simp only [Bool.false_eq_true, if_false] at h
      by_cases h0 : rung x = 0
      · rw [if_pos h0] at h; split at h <;> omega
      · rw [if_neg h0] at h
        cases hs : sgn x with
        | false => rw [hs] at h; simp only [Bool.false_eq_true, if_false] at h; split at h <;> omega
        | true =>
          rw [hs] at h
          simp only [if_true] at h
          by_cases hi : rung x = INFR
          · have h2 := infB_high hi
            have h3 := infB_high (x := negN x) ((negN_rung x).1.trans hi)
            rw [hs] at h2
            rw [(negN_rung x).2, hs] at h3
            exact show_nall hx hn h2 h3
          · rw [if_neg hi] at h; omega
  · cases hn : isn x with
    | true => unfold clsN at h; rw [hn] at h; simp at h
    | false =>
      unfold clsN at h
      rw [hn] at h
      simp only [Bool.false_eq_true, if_false] at h
      by_cases h0 : rung x = 0
      · rw [if_pos h0] at h
        cases hs : sgn x with
        | false => rw [hs] at h; simp at h
        | true =>
          obtain ⟨e1, _⟩ := word_of hx
          rw [hs, h0] at e1
          have e2 : x = sgW true 0 := by rw [e1]; rfl
          rw [e2]
          exact show_word true (by decide) fun v B w hG ho hB => ftoaZ_any true v B w hG ho hB
      · rw [if_neg h0] at h
        revert h
        (repeat' split) <;> simp
end Go.Proofs.YtnofoenkeoabpaaDoor
