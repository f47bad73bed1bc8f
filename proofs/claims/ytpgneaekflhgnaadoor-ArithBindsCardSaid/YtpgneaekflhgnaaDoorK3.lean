/-
  The walks of Name and Number: the program's, and the document's.
-/
import Derived.Test.YtpgneaekflhgnaaDoorK2
namespace Go.Proofs.YtpgneaekflhgnaaDoor
open Go.RowKit

theorem u8lt (c : UInt8) : c.toNat < 256 := c.toNat_lt
/-- A byte of a name: the first one, or another. -/
def nmB (first : Bool) (c : UInt8) : Bool := lettB c || c == 95 || (!first && digB c)
def nameL (l : List UInt8) : Bool := !l.isEmpty && (List.range l.length).all fun i => nmB (i == 0) (l.getD i 0)
def nmTo (l : List UInt8) (k : Nat) : Prop := ∀ i, i < k → nmB (i == 0) (l.getD i 0) = true
theorem nmTo_succ {l : List UInt8} {k : Nat} (h : nmTo l k) (hc : nmB (k == 0) (l.getD k 0) = true) : nmTo l (k + 1) := fun i hi => by
  by_cases h1 : i < k
  · exact h i h1
  · obtain rfl : i = k := by omega
    exact hc
theorem name_no {l : List UInt8} {k : Nat} (hk : k < l.length) (hc : nmB (k == 0) (l.getD k 0) = false) : nameL l = false := by
  rw [nameL, Bool.and_eq_false_iff]
  right
  rw [List.all_eq_false]
  exact ⟨k, List.mem_range.2 hk, by rw [hc]; decide⟩
theorem name_yes {l : List UInt8} (h : nmTo l l.length) : nameL l = !l.isEmpty := by
  rw [nameL, List.all_eq_true.2 (fun i hi => h i (List.mem_range.1 hi)), Bool.and_true]

end Go.Proofs.YtpgneaekflhgnaaDoor
