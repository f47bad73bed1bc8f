/-
  Strings and their bytes: more small laws; strings.IndexByte by its contract.
-/
import Derived.Test.YtpgneaekflhgnaaDoorLib
import Derived.Test.YtpgneaekflhgnaaDoorShelf
import Derived.Laws.DeepStrings4
namespace Go.Proofs.YtpgneaekflhgnaaDoor
open Go.RowKit

theorem isEmpty_L (s : ByteArray) : s.toList.isEmpty = (L s).isEmpty := by rw [toList_L]
theorem toList_S (l : List UInt8) : (S l).toList = l := by rw [toList_L, L_S]
theorem S_extract (s : ByteArray) (a b : Nat) : s.extract a b = S (((L s).drop a).take (b - a)) := by rw [← L_extract, S_L]
theorem S_extract_from (s : ByteArray) (a : Nat) : s.extract a s.size = S ((L s).drop a) := by
  rw [S_extract, List.take_of_length_le (by simp [L_size])]
theorem S_extract_to (s : ByteArray) (b : Nat) : s.extract 0 b = S ((L s).take b) := by rw [S_extract]; rfl
theorem extract_len (s : ByteArray) (a b : Nat) : (s.extract a b).size ≤ s.size := by rw [S_extract, S_size, List.length_take, List.length_drop, L_size]; omega

/-- Pieces of a string, as a region that draws wants them. -/
theorem run_sl {P : Program} {T : TypeId} (hT : P.underlying T = some .string) (s : ByteArray) (i j : Int) (a b : Nat) (hi : i = a) (hj : j = b) (h1 : a ≤ b) (h2 : b ≤ s.size) (w : World) :
    (Instr.slice T (.string s) (some (.int .i64 i)) (some (.int .i64 j)) none).run P w = .ok (.string (s.extract a b)) w := by
  subst hi hj
  rw [run_slice_string_if w T s .i64 .i64 _ _ hT, if_pos ⟨by omega, by omega⟩, if_pos ⟨by omega, by omega⟩]; rfl
theorem run_sl_from {P : Program} {T : TypeId} (hT : P.underlying T = some .string) (s : ByteArray) (i : Int) (a : Nat) (hi : i = a) (h1 : a ≤ s.size) (w : World) :
    (Instr.slice T (.string s) (some (.int .i64 i)) none none).run P w = .ok (.string (s.extract a s.size)) w := by
  subst hi
  rw [run_slice_string_from_if w T s .i64 _ hT, if_pos ⟨by omega, by omega⟩]; rfl
theorem run_sl_to {P : Program} {T : TypeId} (hT : P.underlying T = some .string) (s : ByteArray) (j : Int) (b : Nat) (hj : j = b) (h2 : b ≤ s.size) (w : World) :
    (Instr.slice T (.string s) none (some (.int .i64 j)) none).run P w = .ok (.string (s.extract 0 b)) w := by
  subst hj
  rw [run_slice_string_to_if w T s .i64 _ hT, if_pos ⟨by omega, by omega⟩]; rfl
theorem wrap_in (x : Int) (h : -9223372036854775808 ≤ x ∧ x ≤ 9223372036854775807) : IntKind.i64.wrap x = x := by
  unfold IntKind.wrap
  simp [IntKind.bits, IntKind.signed]
  omega

theorem eq_byte {c d : UInt8} (h : c = d) : (((c.toNat : Nat) : Int) == ((d.toNat : Nat) : Int)) = true := by rw [h]; simp
theorem ne_byte {c d : UInt8} (h : c ≠ d) : (((c.toNat : Nat) : Int) == ((d.toNat : Nat) : Int)) = false := by
  rw [beq_eq_false_iff_ne]
  intro e
  exact h (UInt8.toNat_inj.1 (by omega))

theorem indexAt_any (s : ByteArray) (c : UInt8) (v : Int) (w : World) (hv : Lib.indexByte (L s) c = v) :
    Calls Tryd.prog 30 #[.string s, .int .u8 ((c.toNat : Nat) : Int)] w fun e w' => e = .returned (.int .i64 v) ∧ w' = w := by
  subst hv
  refine (Tryd.strings_IndexByte s ((c.toNat : Nat) : Int) w).mono fun e w' ⟨h1, h2⟩ => ⟨?_, h2⟩
  rw [h1]
  simp [L]
end Go.Proofs.YtpgneaekflhgnaaDoor
