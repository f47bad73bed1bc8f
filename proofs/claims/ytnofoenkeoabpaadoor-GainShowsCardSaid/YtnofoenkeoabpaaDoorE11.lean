/-
  The document's Best; the document's example.
-/
import Derived.Test.YtnofoenkeoabpaaDoorE10
namespace Go.Proofs.YtnofoenkeoabpaaDoor
open Go.RowKit

theorem quo60 : floatBits .quo .f64 (FI 6) (FI 0) = some PINF := by kernel_rfl
theorem quo00' : floatBits .quo .f64 (FI 0) (FI 0) = none := by kernel_rfl
theorem best_first : BestR [2, 3] [] (.tuple #[.int .i64 2, .int .i64 0]) := by
  refine ⟨[PINF, 9221120237041090561], 0, ⟨rfl, ?_⟩, .inr ⟨0, PINF, rfl, rfl, ?_, fun j y hj => by omega⟩, rfl⟩
  · intro k way r h1 h2
    match k, h1, h2 with
    | 0, h1, h2 =>
      simp at h1 h2
      subst h1 h2
      have e : nbB 2 [] = 6 := by
        show ((restL []).length : Int) = 6
        rw [restL_nil]; rfl
      exact ⟨by decide, .inr (.inr ⟨by rw [e]; omega, by decide, .inl (by rw [e]; exact quo60)⟩)⟩
    | 1, h1, h2 =>
      simp at h1 h2
      subst h1 h2
      have e : nbB 3 [] = 0 := rfl
      exact ⟨by decide, .inr (.inr ⟨by rw [e]; omega, by decide, .inr ⟨by rw [e]; exact quo00', by decide⟩⟩)⟩
    | k + 2, h1, h2 => simp at h1
  · intro j y h
    match j, h with
    | 0, h => simp at h; subst h; exact Nat.le_refl _
    | 1, h => simp at h; subst h; decide
    | j + 2, h => simp at h

set_option maxHeartbeats 800000 in
theorem anchor_any (w : World) : Calls Tryd.prog 4 #[] w fun e w' => e = .returned (.bool true) ∧ Below w.heap.size w w' := by
  have hel : Elems (w.alloc (.cells #[.int .i64 2, .int .i64 3] 3)) (w.alloc (.cells #[.int .i64 2, .int .i64 3] 3)).heap.size (some ⟨w.heap.size, 0, none⟩) 2 (([2, 3] : List Int).map intv) := by
    refine ⟨rfl, by decide, .inr ⟨w.heap.size, 0, rfl, by simp, fun i hi => ?_⟩⟩
    match i, hi with
    | 0, _ => simp [intv]
    | 1, _ => simp [intv]
  have CB := Lib.hid (best_any ⟨#[]⟩ _ 2 2 [2, 3] _ hel (by simp) (by omega))
  clear hel
  go_enter Tryd.func4, Tryd.ntmps4
  go_wp2_with fail
  refine CB.out.mono ?_
  rintro e w1 ⟨⟨v, rfl, hv⟩, hb⟩
  obtain rfl := hv.unique best_first
  have HB := Lib.hid (((Below.refl w.heap.size w).alloc (Nat.le_refl _) (.cells #[.int .i64 2, .int .i64 3] 3)).trans (hb.mono (by simp)))
  clear hb
  go_wp2_with fail
  go_ret
  exact ⟨rfl, HB.out⟩
end Go.Proofs.YtnofoenkeoabpaaDoor
