/-
  Bytes of scripts' texts: letters, digits, bytes that may stand without quotes, special signs; the walks.
-/
import Derived.Test.YtpgneaekflhgnaaDoorLib
import Derived.Test.YtpgneaekflhgnaaDoorShelf
import Derived.Test.YtpgneaekflhgnaaDoorByteEq
import Derived.Test.YtpgneaekflhgnaaDoorStr
namespace Go.Proofs.YtpgneaekflhgnaaDoor
open Go.RowKit

def lettB (c : UInt8) : Bool := (decide (97 ≤ c.toNat) && decide (c.toNat ≤ 122)) || (decide (65 ≤ c.toNat) && decide (c.toNat ≤ 90))
def digB (c : UInt8) : Bool := decide (48 ≤ c.toNat) && decide (c.toNat ≤ 57)
theorem bool_of {a b : Bool} {p : Prop} (h1 : a = true ↔ p) (h2 : b = true ↔ p) : a = b := by rw [Bool.eq_iff_iff, h1, h2]
theorem lettB_iff (c : UInt8) : lettB c = true ↔ (97 ≤ c.toNat ∧ c.toNat ≤ 122) ∨ (65 ≤ c.toNat ∧ c.toNat ≤ 90) := by simp [lettB]
theorem digB_iff (c : UInt8) : digB c = true ↔ 48 ≤ c.toNat ∧ c.toNat ≤ 57 := by simp [digB]

/-- One of a text's bytes. -/
def hasB (l : List UInt8) (c : UInt8) : Bool := l.contains c
theorem hasB_mem {l : List UInt8} {c : UInt8} : hasB l c = true ↔ c ∈ l := by rw [hasB, List.contains_iff_mem]
theorem getD_mem' {l : List UInt8} {i : Nat} (h : i < l.length) : l.getD i 0 ∈ l := by simp [List.getD, h]
theorem take_getD {l : List UInt8} {k : Nat} (h : k < l.length) : l.take (k + 1) = l.take k ++ [l.getD k 0] := by
  rw [List.take_add_one]
  simp [List.getD, List.getElem?_eq_getElem h]

end Go.Proofs.YtpgneaekflhgnaaDoor
