/-
  Bytes that are alike, or not, as a walk spells it.
-/
import Derived.Test.YtpgneaekflhgnaaDoorLib
namespace Go.Proofs.YtpgneaekflhgnaaDoor
theorem eq_byte {c d : UInt8} (h : c = d) : (((c.toNat : Nat) : Int) == ((d.toNat : Nat) : Int)) = true := by rw [h]; simp
theorem ne_byte {c d : UInt8} (h : c ≠ d) : (((c.toNat : Nat) : Int) == ((d.toNat : Nat) : Int)) = false := by
  rw [beq_eq_false_iff_ne]
  intro e
  exact h (UInt8.toNat_inj.1 (by omega))
end Go.Proofs.YtpgneaekflhgnaaDoor
