/-
  Strings and their bytes: more small laws.
-/
import Derived.Test.YthfnkgofkdahfaaGreatDoorLib
import Derived.Laws.DeepStrings4
namespace Go.Proofs.YthfnkgofkdahfaaGreatDoor
open Go.RowKit

theorem isEmpty_L (s : ByteArray) : s.toList.isEmpty = (L s).isEmpty := by rw [toList_L]
theorem toList_S (l : List UInt8) : (S l).toList = l := by rw [toList_L, L_S]
theorem S_extract (s : ByteArray) (a b : Nat) : s.extract a b = S (((L s).drop a).take (b - a)) := by rw [← L_extract, S_L]
theorem S_extract_from (s : ByteArray) (a : Nat) : s.extract a s.size = S ((L s).drop a) := by
  rw [S_extract, List.take_of_length_le (by simp [L_size])]
theorem S_extract_to (s : ByteArray) (b : Nat) : s.extract 0 b = S ((L s).take b) := by rw [S_extract]; rfl
theorem extract_len (s : ByteArray) (a b : Nat) : (s.extract a b).size ≤ s.size := by rw [S_extract, S_size, List.length_take, List.length_drop, L_size]; omega

/-- Pieces of a string, as a region that draws wants them. -/
theorem run_sl {P : Program} {T : TypeId} (hT : P.underlying T = some .string) (s : ByteArray) (i j : Int) (a b : Nat) (hi : i = a) (hj : j = b) (h1 : a ≤ b) (h2 : b ≤ s.size) (w : World) :
    (Instr.slice T (.string s) (some (.int .i64 i)) (some (.int .i64 j)) none).run P w = .ok (.string (s.extract a b)) w := by
  subst hi hj
  rw [run_slice_string_if w T s .i64 .i64 _ _ hT, if_pos ⟨by omega, by omega⟩, if_pos ⟨by omega, by omega⟩]; rfl
theorem run_sl_from {P : Program} {T : TypeId} (hT : P.underlying T = some .string) (s : ByteArray) (i : Int) (a : Nat) (hi : i = a) (h1 : a ≤ s.size) (w : World) :
    (Instr.slice T (.string s) (some (.int .i64 i)) none none).run P w = .ok (.string (s.extract a s.size)) w := by
  subst hi
  rw [run_slice_string_from_if w T s .i64 _ hT, if_pos ⟨by omega, by omega⟩]; rfl
theorem run_sl_to {P : Program} {T : TypeId} (hT : P.underlying T = some .string) (s : ByteArray) (j : Int) (b : Nat) (hj : j = b) (h2 : b ≤ s.size) (w : World) :
    (Instr.slice T (.string s) none (some (.int .i64 j)) none).run P w = .ok (.string (s.extract 0 b)) w := by
  subst hj
  rw [run_slice_string_to_if w T s .i64 _ hT, if_pos ⟨by omega, by omega⟩]; rfl
theorem wrap_in (x : Int) (h : -9223372036854775808 ≤ x ∧ x ≤ 9223372036854775807) : IntKind.i64.wrap x = x := by
  unfold IntKind.wrap
  simp [IntKind.bits, IntKind.signed]
  omega

end Go.Proofs.YthfnkgofkdahfaaGreatDoor
