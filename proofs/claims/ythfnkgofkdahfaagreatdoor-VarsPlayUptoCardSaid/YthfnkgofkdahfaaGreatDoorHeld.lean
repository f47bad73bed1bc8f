/-
  The one variable of the library that strings.Index, Split and Replace read.
-/
import Derived.Test.YthfnkgofkdahfaaGreatDoorLib
namespace Go.Proofs.YthfnkgofkdahfaaGreatDoor
open Go.RowKit

/-- internal/bytealg.MaxLen holds some number. -/
def Held (w : World) : Prop := (∃ c, w.cell? ⟨0, 0, none⟩ = some (.int .i64 c)) ∧ 0 < w.heap.size
theorem Held.below {w w' : World} (h : Held w) {B : Nat} (hB : 0 < B) (hb : Below B w w') : Held w' := by
  obtain ⟨⟨c, hc⟩, h2⟩ := h
  exact ⟨⟨c, by rw [hb.cell hB]; exact hc⟩, Nat.lt_of_lt_of_le h2 hb.size⟩
end Go.Proofs.YthfnkgofkdahfaaGreatDoor
