/-
  The walk of level; take with the longer signs laid anew.
-/
import Derived.Test.YtpgneaekflhgnaaDoorA2
import Derived.Test.YtpgneaekflhgnaaDoorA3
namespace Go.Proofs.YtpgneaekflhgnaaDoor
open Go.RowKit

theorem Blk.at {w : World} {g : Nat} {t : TypeId} {cs : Array Value} (hg : g = w.heap.size) : Blk (w.alloc (.cells cs t)) g t cs := by subst hg; exact Blk.new w t cs
theorem lev_blk {n b : Nat} {w : World} (h : Blk w b 9 ((levB n).map fun o => Value.string (S (opB o))).toArray) (k : Nat) (hk : k < (levB n).length) : w.cell? ⟨b, k, none⟩ = some (.string (S (opB ((levB n).getD k 0)))) := by
  refine (h.cell k).trans ?_
  simp [List.getD, List.getElem?_eq_getElem hk]
theorem lev_cases {n : Nat} (h : n < 10) : n = 0 ∨ n = 1 ∨ n = 2 ∨ n = 3 ∨ n = 4 ∨ n = 5 ∨ n = 6 ∨ n = 7 ∨ n = 8 ∨ n = 9 := by omega
set_option maxHeartbeats 2000000 in
set_option maxRecDepth 100000 in
theorem level_any {n : Nat} (h : n < 10) (w : World) : Calls Tryd.prog 77 #[.int .i64 (n : Int)] w fun e w' => (∃ b, e = .returned (.slice (some ⟨b, 0, none⟩) (levB n).length (levB n).length) ∧ w.heap.size ≤ b ∧ b < w'.heap.size ∧ ∀ k, k < (levB n).length → w'.cell? ⟨b, k, none⟩ = some (.string (S (opB ((levB n).getD k 0))))) ∧ Below w.heap.size w w' := by
  rcases lev_cases h with rfl | rfl | rfl | rfl | rfl | rfl | rfl | rfl | rfl | rfl
  all_goals
    clear h
    go_enter Tryd.func77, Tryd.ntmps77
    go_wp2
    go_ret
    refine ⟨⟨_, rfl, by omega, by first | (simp; done) | (simp; omega), lev_blk ?_⟩, ?_⟩
    · repeat (first | (refine Blk.at ?_; (simp; done)) | refine Blk.alloc ?_ _)
    · repeat (first | exact Below.refl _ _ | (refine Below.alloc ?_ (by first | (simp; done) | (simp; omega)) _))
end Go.Proofs.YtpgneaekflhgnaaDoor
