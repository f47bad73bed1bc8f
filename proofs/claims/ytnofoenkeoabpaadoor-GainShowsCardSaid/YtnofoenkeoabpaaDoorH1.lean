/-
  Plain: how digits without their last zeros are shown with three behind the point.
-/
import Derived.Test.YtnofoenkeoabpaaDoorLib
import Derived.Lib.Atoi
import Derived.Lib.ItoaMem
namespace Go.Proofs.YtnofoenkeoabpaaDoor
open Go.RowKit

/-- Digits without the zeros at their end: how many. -/
def nzD (l : List UInt8) : Nat := (l.reverse.dropWhile (· == 48)).length
theorem nzD_le (l : List UInt8) : nzD l ≤ l.length := by
  have h := congrArg List.length (List.takeWhile_append_dropWhile (p := (· == (48 : UInt8))) (l := l.reverse))
  rw [List.length_append, List.length_reverse] at h
  rw [nzD]; omega
theorem tw48 : ∀ (l : List UInt8) (x : UInt8), x ∈ l.takeWhile (· == 48) → x = 48
  | [], _, h => absurd h (by simp)
  | c :: l, x, h => by
    rw [List.takeWhile_cons] at h
    by_cases hc : (c == 48) = true
    · rw [if_pos hc] at h
      rcases List.mem_cons.1 h with rfl | h
      · simpa using hc
      · exact tw48 l x h
    · rw [if_neg hc] at h
      exact absurd h (by simp)
/-- The digits, parted there: behind them there are zeros alone. -/
theorem nzD_split (l : List UInt8) : ∃ r, l = l.take (nzD l) ++ List.replicate (l.length - nzD l) 48 ∧ r = nzD l := by
  refine ⟨_, ?_, rfl⟩
  have h : (l.reverse.dropWhile (· == 48)).reverse ++ (l.reverse.takeWhile (· == 48)).reverse = l := by
    rw [← List.reverse_append, List.takeWhile_append_dropWhile, List.reverse_reverse]
  have h1 : l.take (nzD l) = (l.reverse.dropWhile (· == 48)).reverse := by
    have e : nzD l = (l.reverse.dropWhile (· == 48)).reverse.length := by rw [List.length_reverse]; rfl
    rw [e]
    have := congrArg (List.take (l.reverse.dropWhile (· == 48)).reverse.length) h
    rw [List.take_left'] at this
    · exact this.symm
    · rfl
  have h2 : (l.reverse.takeWhile (· == 48)).reverse = List.replicate (l.length - nzD l) 48 := by
    rw [List.eq_replicate_iff]
    constructor
    · have := congrArg List.length h
      rw [List.length_append, List.length_reverse] at this
      rw [nzD]; omega
    · intro b hb
      exact tw48 _ b (List.mem_reverse.1 hb)
  rw [h1, ← h2]
  exact h.symm
/-- So many digits, zeros where none are left. -/
def padT (l : List UInt8) (nz k : Nat) : List UInt8 := l.take (min nz k) ++ List.replicate (k - min nz k) 48
theorem padT_eq (l : List UInt8) {k : Nat} (hk : k ≤ l.length) : padT l (nzD l) k = l.take k := by
  obtain ⟨_, h, _⟩ := nzD_split l
  have hle := nzD_le l
  rw [padT]
  by_cases hn : k ≤ nzD l
  · rw [Nat.min_eq_right hn, Nat.sub_self]; simp
  · have e : min (nzD l) k = nzD l := Nat.min_eq_left (by omega)
    rw [e]
    have h3 := congrArg (List.take k) h
    simp only [List.take_append, List.take_take, List.take_replicate, List.length_take] at h3
    rw [Nat.min_eq_right (show nzD l ≤ k by omega), Nat.min_eq_left hle, Nat.min_eq_left (show k - nzD l ≤ l.length - nzD l by omega)] at h3
    exact h3.symm
theorem padD_eq (l : List UInt8) {k t : Nat} (hk : k + t = l.length) : (l.drop k).take (min t (nzD l - k)) ++ List.replicate (t - min t (nzD l - k)) 48 = l.drop k := by
  obtain ⟨_, h, _⟩ := nzD_split l
  have hle := nzD_le l
  have e1 : min t (nzD l - k) = nzD l - k := Nat.min_eq_right (by omega)
  rw [e1]
  have h3 := congrArg (List.drop k) h
  simp only [List.drop_append, List.drop_replicate, List.length_take] at h3
  rw [Nat.min_eq_left hle] at h3
  by_cases hn : nzD l ≤ k
  · have e : nzD l - k = 0 := by omega
    rw [e, List.take_zero, List.nil_append, Nat.sub_zero]
    have e0 : (l.take (nzD l)).drop k = [] := List.drop_eq_nil_of_le (by rw [List.length_take]; omega)
    rw [e0, List.nil_append] at h3
    rw [h3]
    congr 1
    omega
  · have e2 : k - nzD l = 0 := by omega
    rw [e2, Nat.sub_zero] at h3
    have e3 : (l.drop k).take (nzD l - k) = (l.take (nzD l)).drop k := by rw [List.drop_take]
    rw [e3]
    have e4 : t - (nzD l - k) = l.length - nzD l := by omega
    rw [e4]
    exact h3.symm
/-- The last three digits. -/
def last3 (d : Nat) : List UInt8 := [UInt8.ofNat (48 + d / 100 % 10), UInt8.ofNat (48 + d / 10 % 10), UInt8.ofNat (48 + d % 10)]
theorem dec_step {m : Nat} (h : ¬ m < 10) : Lib.decDigits m = Lib.decDigits (m / 10) ++ [UInt8.ofNat (48 + m % 10)] := by rw [Lib.decDigits, dif_neg h]
theorem dec_1000 {d : Nat} (h : 1000 ≤ d) : Lib.decDigits d = Lib.decDigits (d / 1000) ++ last3 d := by
  rw [dec_step (show ¬ d < 10 by omega), dec_step (show ¬ d / 10 < 10 by omega), dec_step (show ¬ d / 10 / 10 < 10 by omega)]
  have e1 : d / 10 / 10 / 10 = d / 1000 := by omega
  have e2 : d / 10 / 10 = d / 100 := by omega
  rw [e1, e2]
  simp [last3]
theorem dec_low {d : Nat} (h1 : 1 ≤ d) (h : d < 1000) : (Lib.decDigits d).length ≤ 3 ∧ List.replicate (3 - (Lib.decDigits d).length) 48 ++ Lib.decDigits d = last3 d := by
  by_cases h10 : d < 10
  · rw [Lib.decDigits, dif_pos h10]
    refine ⟨by simp, ?_⟩
    have e1 : d / 100 = 0 := by omega
    have e2 : d / 10 = 0 := by omega
    have e3 : d % 10 = d := by omega
    simp [last3, e1, e2, e3, List.replicate]
  · by_cases h100 : d < 100
    · rw [dec_step h10, Lib.decDigits, dif_pos (show d / 10 < 10 by omega)]
      refine ⟨by simp, ?_⟩
      have e1 : d / 100 = 0 := by omega
      have e2 : d / 10 % 10 = d / 10 := by omega
      simp [last3, e1, e2, List.replicate]
    · rw [dec_step h10, dec_step (show ¬ d / 10 < 10 by omega), Lib.decDigits, dif_pos (show d / 10 / 10 < 10 by omega)]
      refine ⟨by simp, ?_⟩
      have e1 : d / 10 / 10 = d / 100 := by omega
      have e2 : d / 100 % 10 = d / 100 := by omega
      simp [last3, e1, e2]
theorem last3_len (d : Nat) : (last3 d).length = 3 := rfl
/-- What fmtEFG lays of digits whose point stands three ahead of the end. -/
def shown (D : List UInt8) (nz : Nat) : List UInt8 :=
  if 3 < D.length then padT D nz (D.length - 3) ++ 46 :: ((D.drop (D.length - 3)).take (min 3 (nz - (D.length - 3))) ++ List.replicate (3 - min 3 (nz - (D.length - 3))) 48)
  else 48 :: 46 :: (List.replicate (3 - D.length) 48 ++ (D.take (min D.length nz) ++ List.replicate (D.length - min D.length nz) 48))
theorem shown_dec {d : Nat} (h1 : 1 ≤ d) : shown (Lib.decDigits d) (nzD (Lib.decDigits d)) = Lib.decDigits (d / 1000) ++ 46 :: last3 d := by
  by_cases h : 1000 ≤ d
  · have e := dec_1000 h
    have hl : (Lib.decDigits d).length = (Lib.decDigits (d / 1000)).length + 3 := by rw [e, List.length_append, last3_len]
    have hp : 0 < (Lib.decDigits (d / 1000)).length := by
      rw [Lib.decDigits]
      split <;> simp
    rw [shown, if_pos (by omega), padT_eq _ (by omega), padD_eq _ (t := 3) (by omega)]
    have e2 : (Lib.decDigits d).length - 3 = (Lib.decDigits (d / 1000)).length := by omega
    rw [e2, e, List.take_left', List.drop_left']
    · rfl
    · rfl
  · obtain ⟨h3, h4⟩ := dec_low h1 (by omega)
    have e0 : d / 1000 = 0 := by omega
    rw [shown, if_neg (by omega), e0]
    have hm := padD_eq (Lib.decDigits d) (k := 0) (t := (Lib.decDigits d).length) (by omega)
    rw [List.drop_zero, Nat.sub_zero] at hm
    rw [hm, h4, Lib.decDigits, dif_pos (by omega)]
    rfl
end Go.Proofs.YtnofoenkeoabpaaDoor
