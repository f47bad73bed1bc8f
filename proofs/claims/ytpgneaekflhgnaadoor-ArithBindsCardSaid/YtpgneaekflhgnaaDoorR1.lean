/-
  Plain: the number that digits of a base are.
-/
import Derived.Test.YtpgneaekflhgnaaDoorLib
import Derived.Lib.Atoi
import Derived.Lib.ItoaMem
namespace Go.Proofs.YtpgneaekflhgnaaDoor
open Go.RowKit

/-- What a letter is worth; 99: none. -/
def digV (c : UInt8) : Nat :=
  if 48 ≤ c.toNat ∧ c.toNat ≤ 57 then c.toNat - 48
  else if 97 ≤ c.toNat ∧ c.toNat ≤ 122 then c.toNat - 87
  else if 65 ≤ c.toNat ∧ c.toNat ≤ 90 then c.toNat - 55
  else 99
def valB (base : Nat) (l : List UInt8) : Nat := l.foldl (fun v c => v * base + digV c) 0
def okD (base : Nat) (l : List UInt8) : Bool := l.all fun c => decide (digV c < base)
/-- The number that digits are. -/
def readB (base : Nat) (l : List UInt8) : Option Nat :=
  if l ≠ [] ∧ okD base l = true ∧ valB base l < 9223372036854775808 then some (valB base l) else none
theorem valB_snoc (base : Nat) (l : List UInt8) (c : UInt8) : valB base (l ++ [c]) = valB base l * base + digV c := by
  simp [valB, List.foldl_append]
theorem okD_snoc (base : Nat) (l : List UInt8) (c : UInt8) : okD base (l ++ [c]) = (okD base l && decide (digV c < base)) := by
  simp [okD, List.all_append]
theorem valB_mono (base : Nat) (hb : 0 < base) (l m : List UInt8) : valB base l ≤ valB base (l ++ m) := by
  induction m generalizing l with
  | nil => simp
  | cons c m ih =>
    have e : l ++ c :: m = (l ++ [c]) ++ m := by simp
    rw [e]
    refine Nat.le_trans ?_ (ih (l ++ [c]))
    rw [valB_snoc]
    have : valB base l * 1 ≤ valB base l * base := Nat.mul_le_mul_left _ hb
    omega
/-- Not a digit of the base: no number. -/
theorem readB_not {base : Nat} {l : List UInt8} {c : UInt8} (hc : c ∈ l) (h : base ≤ digV c) : readB base l = none := by
  rw [readB, if_neg]
  rintro ⟨_, h2, _⟩
  have := List.all_eq_true.1 h2 c hc
  simp at this
  omega
/-- Too great a number, though more come. -/
theorem readB_great {base : Nat} (hb : 0 < base) {l m : List UInt8} (h : 9223372036854775808 ≤ valB base l) : readB base (l ++ m) = none := by
  rw [readB, if_neg]
  rintro ⟨_, _, h3⟩
  have := valB_mono base hb l m
  omega
theorem readB_all {base : Nat} {l : List UInt8} (h1 : l ≠ []) (h2 : okD base l = true) (h3 : valB base l < 9223372036854775808) : readB base l = some (valB base l) := by
  rw [readB, if_pos ⟨h1, h2, h3⟩]
theorem readB_nil (base : Nat) : readB base [] = none := by rw [readB, if_neg]; simp
/-- The document's test ahead of a digit. -/
theorem great_iff {base d n M : Nat} (hb : 0 < base) (hd : d ≤ M) : (M - d) / base < n ↔ M < n * base + d := by
  rw [Nat.div_lt_iff_lt_mul hb]
  omega
/-- The number with its base's mark ahead. -/
def readL : List UInt8 → Option Nat
  | [] => none
  | [c] => readB 10 [c]
  | c :: d :: r =>
    if c = 48 then
      if r ≠ [] ∧ (d = 120 ∨ d = 88) then readB 16 r else readB 8 (d :: r)
    else readB 10 (c :: d :: r)
theorem dec_byte {d : Nat} (h : d < 10) : (UInt8.ofNat (48 + d)).toNat = 48 + d := UInt8.toNat_ofNat_of_lt' (by show 48 + d < 256; omega)
theorem digV_dec {d : Nat} (h : d < 10) : digV (UInt8.ofNat (48 + d)) = d := by
  rw [digV, dec_byte h, if_pos (by omega)]
  omega
theorem dec_okD (n : Nat) : okD 10 (Lib.decDigits n) = true := by
  induction n using Nat.strongRecOn with
  | ind n ih =>
    rw [Lib.decDigits]
    split
    · rename_i h
      show (decide (digV (UInt8.ofNat (48 + n)) < 10) && true) = true
      rw [digV_dec h]
      simp [h]
    · rename_i h
      rw [okD_snoc, ih (n / 10) (by omega), digV_dec (Nat.mod_lt _ (by omega))]
      simp
      omega
theorem dec_valB (n : Nat) : valB 10 (Lib.decDigits n) = n := by
  induction n using Nat.strongRecOn with
  | ind n ih =>
    rw [Lib.decDigits]
    split
    · rename_i h
      show 0 * 10 + digV (UInt8.ofNat (48 + n)) = n
      rw [digV_dec h]
      omega
    · rename_i h
      rw [valB_snoc, ih (n / 10) (by omega), digV_dec (Nat.mod_lt _ (by omega))]
      omega
theorem dec_ne (n : Nat) : Lib.decDigits n ≠ [] := by
  rw [Lib.decDigits]
  split <;> simp
/-- No digits but those of 0 begin with 0. -/
theorem dec_head (n : Nat) (hn : n ≠ 0) : ∃ c r, Lib.decDigits n = c :: r ∧ 49 ≤ c.toNat ∧ c.toNat ≤ 57 := by
  induction n using Nat.strongRecOn with
  | ind n ih =>
    rw [Lib.decDigits]
    split
    · rename_i h
      exact ⟨_, [], rfl, by rw [dec_byte h]; omega, by rw [dec_byte h]; omega⟩
    · rename_i h
      obtain ⟨c, r, h1, h2, h3⟩ := ih (n / 10) (by omega) (by omega)
      exact ⟨c, r ++ [UInt8.ofNat (48 + n % 10)], by rw [h1]; rfl, h2, h3⟩
theorem readB_dec (n : Nat) (h : n < 9223372036854775808) : readB 10 (Lib.decDigits n) = some n := by
  rw [readB_all (dec_ne n) (dec_okD n) (by rw [dec_valB]; exact h), dec_valB]
theorem readL_dec (n : Nat) (h : n < 9223372036854775808) : readL (Lib.decDigits n) = some n := by
  have hr := readB_dec n h
  by_cases h0 : n = 0
  · subst h0
    rw [Lib.decDigits] at hr ⊢
    exact hr
  · obtain ⟨c, r, h1, h2, h3⟩ := dec_head n h0
    rw [h1] at hr ⊢
    cases r with
    | nil => exact hr
    | cons d r =>
      have hc : c ≠ 48 := by
        rintro rfl
        exact absurd h2 (by decide)
      rw [readL, if_neg hc]
      exact hr

end Go.Proofs.YtpgneaekflhgnaaDoor
