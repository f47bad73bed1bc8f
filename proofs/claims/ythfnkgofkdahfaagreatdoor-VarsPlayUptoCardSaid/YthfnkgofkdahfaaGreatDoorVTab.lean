/-
  The table of the powers of ten out of the listed variables.
-/
import Derived.Test.YthfnkgofkdahfaaGreatDoorP6
import Derived.Test.YthfnkgofkdahfaaGreatDoorOpen
import Derived.Lib.LaidTab
import Derived.MakeChecks
namespace Go.Proofs.YthfnkgofkdahfaaGreatDoor
open Go.Shelf Go.RowKit Go.Lib

theorem tab_of_laid {W : World} (h : laidMetH Tryz.prog Rows.varsPlayUptoRow.laid W) : Tab W := by
  rw [MakeChecks.laidMetH_plain _ _ _ (by kernel_rfl)] at h
  obtain ⟨ps, ⟨g0, t0, cs0, f0, p0, q0, hg0, ht0, hv0, hd0, ⟨g1, t1, cs1, f1, p1, q1, hg1, ht1, hv1, hd1, ⟨g2, t2, cs2, f2, p2, q2, hg2, ht2, hv2, hd2, _, _⟩, _⟩, _⟩, _, _⟩ := h
  have hg : Tryz.prog.globalNamed "internal/strconv.uint64pow10" = some 3 := by kernel_rfl
  have hty : (Tryz.prog.globals[3]?).map (·.type) = some 131 := by kernel_rfl
  obtain rfl := Option.some.inj (hg.symm.trans hg2)
  obtain rfl := Option.some.inj (hty.symm.trans ht2)
  have hT : TabIs Tryz.prog W "internal/strconv.uint64pow10" .u64 pow10Tab := by
    unfold TabIs
    rw [hv2, ← cells_of_tab (k := .u64) (zs := pow10Tab) Tryz.underlying131 Tryz.underlying84 (by kernel_rfl) (by kernel_rfl) hd2]
  exact ⟨hT, World.block_lt_of_cell? W _ (hT.cell hg 0 (by decide))⟩
end Go.Proofs.YthfnkgofkdahfaaGreatDoor
