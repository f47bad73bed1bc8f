/-
  strings.Cut's cell, from the world's shape.
-/
import Derived.Test.YtjnknckbdfgjlaaU8
import Derived.Test.YtjnknckbdfgjlaaOpen
import Derived.HandedShaped
import Derived.Shelf.Vars
namespace Go.Proofs.Ytjnknckbdfgjlaa
open Go.ChangeShapes Go.WideShapes Go.ChangeAt Go.RowKit

theorem held_of_shape {W : World} (h : W.ShapedOpen Try.prog) : Held W := by
  obtain ⟨c, hc⟩ := Go.Proofs.cell_of_shapedOpen_int (g := 0) (zero := #[.int .i64 0]) (t := 3) h (of_decide_eq_true (by kernel_rfl)) (by kernel_rfl) rfl (by kernel_rfl) (by kernel_rfl) Try.underlying3
  exact ⟨⟨c, hc⟩, Nat.lt_of_le_of_lt (Nat.zero_le _) (World.block_lt_of_cell? W _ hc)⟩
end Go.Proofs.Ytjnknckbdfgjlaa
