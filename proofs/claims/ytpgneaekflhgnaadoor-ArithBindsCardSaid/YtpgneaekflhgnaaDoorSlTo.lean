/-
  v[:k] of a slice.
-/
import Derived.Test.YtpgneaekflhgnaaDoorSl
namespace Go.Proofs.YtpgneaekflhgnaaDoor
open Go.RowKit

theorem Sl.to {P : Program} {w : World} {B size n : Nat} {v : Value} {xs : List Value} (h : Sl w B size v n xs) (T E : Nat) (hT : P.underlying T = some (.slice E)) (hs : (P.info? E).map (·.size) = some size) {k : Nat} (hk : k ≤ n) :
    ∃ v', (∀ (w' : World), (Instr.slice T v none (some (.int .i64 (k : Int))) none).run P w' = .ok v' w') ∧ Sl w B size v' k (xs.take (k * size)) := by
  obtain ⟨h1, a, cap, rfl, h3, h4, h5⟩ := h
  have he : P.elem T = E := by simp [Program.elem, hT]
  obtain ⟨i, hi, hi1⟩ := Option.map_eq_some_iff.1 hs
  refine ⟨sliced a 0 k cap size, fun w' => ?_, ?_⟩
  · rw [run_slice_h w' T a n cap (by rw [he]; exact hT) .i64 k (by omega) (by omega), he]
    simp [sizeOf, typeInfo, hi, hi1, Result.andThen]
  · have hks : k * size ≤ n * size := Nat.mul_le_mul_right _ hk
    refine ⟨by rw [List.length_take, h1]; omega, _, _, by rw [sliced, Nat.sub_zero, Nat.sub_zero], by omega, by omega, ?_⟩
    rcases h5 with h5 | ⟨b, off, rfl, hB, hc⟩
    · exact .inl (by omega)
    · refine .inr ⟨b, off, ?_, hB, fun j hj => ?_⟩
      · split
        · rfl
        · rw [Option.map_some, addr_add, Nat.zero_mul, Nat.add_zero]
      · rw [hc j (by omega), List.getElem?_take_of_lt hj]
end Go.Proofs.YtpgneaekflhgnaaDoor
