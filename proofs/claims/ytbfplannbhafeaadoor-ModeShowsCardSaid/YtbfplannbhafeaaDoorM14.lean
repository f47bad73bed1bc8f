/-
  The document's walk of an action.
-/
import Derived.Test.YtbfplannbhafeaaDoorM13
namespace Go.Proofs.YtbfplannbhafeaaDoor
open Go.RowKit

theorem any_law (m : Nat) : ((m &&& 73) != 0) = (m.testBit 0 || m.testBit 3 || m.testBit 6) := by
  have h73 : ∀ i, (73 : Nat).testBit i = (decide (i = 0) || decide (i = 3) || decide (i = 6)) := fun i => by
    by_cases hi : i < 7
    · have : ∀ i : Fin 7, (73 : Nat).testBit i.val = (decide (i.val = 0) || decide (i.val = 3) || decide (i.val = 6)) := by decide
      exact this ⟨i, hi⟩
    · rw [Nat.testBit_lt_two_pow (Nat.lt_of_lt_of_le (show 73 < 2 ^ 7 by decide) (Nat.pow_le_pow_right (by omega) (by omega)))]
      have h1 : i ≠ 0 := by omega
      have h2 : i ≠ 3 := by omega
      have h3 : i ≠ 6 := by omega
      simp [h1, h2, h3]
  have hb : ∀ i, (m &&& 73).testBit i = (m.testBit i && (decide (i = 0) || decide (i = 3) || decide (i = 6))) := fun i => by rw [Nat.testBit_and, h73]
  cases h : (m.testBit 0 || m.testBit 3 || m.testBit 6) with
  | true =>
    rw [bne_iff_ne]
    intro e
    have h0 := hb 0
    have h3 := hb 3
    have h6 := hb 6
    rw [e] at h0 h3 h6
    simp at h0 h3 h6 h
    rcases h with (h | h) | h
    · rw [h] at h0; simp at h0
    · rw [h] at h3; cases h3
    · rw [h] at h6; cases h6
  | false =>
    simp at h
    obtain ⟨⟨h0, h3⟩, h6⟩ := h
    rw [bne_eq_false_iff_eq]
    apply Nat.eq_of_testBit_eq
    intro i
    rw [hb, Nat.zero_testBit]
    by_cases e0 : i = 0
    · subst e0; rw [Nat.testBit_zero]; simp; omega
    · by_cases e3 : i = 3
      · subst e3; rw [h3]; rfl
      · by_cases e6 : i = 6
        · subst e6; rw [h6]; rfl
        · simp [e0, e3, e6]
end Go.Proofs.YtbfplannbhafeaaDoor
