/-
  Bytes of scripts' texts: letters, digits, bytes that may stand without quotes, special signs; the walks.
-/
import Derived.Test.YthfnkgofkdahfaaDoorLib
import Derived.Test.YthfnkgofkdahfaaDoorShelf
import Derived.Test.YthfnkgofkdahfaaDoorByteEq
import Derived.Test.YthfnkgofkdahfaaDoorSt
namespace Go.Proofs.YthfnkgofkdahfaaDoor
open Go.RowKit

def lettB (c : UInt8) : Bool := (decide (97 ≤ c.toNat) && decide (c.toNat ≤ 122)) || (decide (65 ≤ c.toNat) && decide (c.toNat ≤ 90))
def digB (c : UInt8) : Bool := decide (48 ≤ c.toNat) && decide (c.toNat ≤ 57)
theorem bool_of {a b : Bool} {p : Prop} (h1 : a = true ↔ p) (h2 : b = true ↔ p) : a = b := by rw [Bool.eq_iff_iff, h1, h2]
theorem lettB_iff (c : UInt8) : lettB c = true ↔ (97 ≤ c.toNat ∧ c.toNat ≤ 122) ∨ (65 ≤ c.toNat ∧ c.toNat ≤ 90) := by simp [lettB]
theorem digB_iff (c : UInt8) : digB c = true ↔ 48 ≤ c.toNat ∧ c.toNat ≤ 57 := by simp [digB]

theorem letter_any (c : UInt8) (w : World) : Calls Tryd.prog 39 #[.int .u8 ((c.toNat : Nat) : Int)] w fun e w' => e = .returned (.bool (lettB c)) ∧ w' = w := by
  have hr := lettB_iff c
  obtain ⟨r, hr0⟩ : ∃ r, r = lettB c := ⟨_, rfl⟩
  rw [← hr0] at hr ⊢
  clear hr0
  obtain ⟨v, hv⟩ : ∃ v, v = c.toNat := ⟨_, rfl⟩
  rw [← hv] at hr ⊢
  have HR := Lib.hid hr
  clear hv hr
  by_cases h1 : 97 ≤ v
  all_goals by_cases h2 : 65 ≤ v
  all_goals by_cases h3 : v ≤ 122
  all_goals
    go_enter Tryd.func39, Tryd.ntmps39
    go_wp2
    all_goals
      go_ret
      exact ⟨ret_bool (by have := HR.out; rw [Bool.eq_iff_iff, this]; simp; try omega), rfl⟩

theorem digit_any (c : UInt8) (w : World) : Calls Tryd.prog 40 #[.int .u8 ((c.toNat : Nat) : Int)] w fun e w' => e = .returned (.bool (digB c)) ∧ w' = w := by
  have hr := digB_iff c
  obtain ⟨r, hr0⟩ : ∃ r, r = digB c := ⟨_, rfl⟩
  rw [← hr0] at hr ⊢
  clear hr0
  obtain ⟨v, hv⟩ : ∃ v, v = c.toNat := ⟨_, rfl⟩
  rw [← hv] at hr ⊢
  have HR := Lib.hid hr
  clear hv hr
  by_cases h1 : 48 ≤ v
  all_goals
    go_enter Tryd.func40, Tryd.ntmps40
    go_wp2
    all_goals
      go_ret
      exact ⟨ret_bool (by have := HR.out; rw [Bool.eq_iff_iff, this]; simp; try omega), rfl⟩

/-- One of a text's bytes. -/
def hasB (l : List UInt8) (c : UInt8) : Bool := l.contains c
theorem hasB_mem {l : List UInt8} {c : UInt8} : hasB l c = true ↔ c ∈ l := by rw [hasB, List.contains_iff_mem]
theorem getD_mem' {l : List UInt8} {i : Nat} (h : i < l.length) : l.getD i 0 ∈ l := by simp [List.getD, h]
theorem take_getD {l : List UInt8} {k : Nat} (h : k < l.length) : l.take (k + 1) = l.take k ++ [l.getD k 0] := by
  rw [List.take_add_one]
  simp [List.getD, List.getElem?_eq_getElem h]

end Go.Proofs.YthfnkgofkdahfaaDoor
