/-
  The walks of the anchor, of short and right, and of the statement TreeChecks.
-/
import Derived.Test.YtdelgbkllnccoaaDoorT11
namespace Go.Proofs.YtdelgbkllnccoaaDoor
open Go.RowKit

theorem shortL_any (l : List It) (v : Value) (w : World) (hl : Tr w w.heap.size v l) (hz : ∀ x ∈ l, x.p.size ≤ 140737488355327 ∧ x.d.size ≤ 140737488355327 ∧ x.s.size ≤ 140737488355327) :
    Calls Tryd.prog 7 #[v] w fun e w' => e = .returned (.bool (shortB l)) ∧ Below w.heap.size w w' := by
  have C := Lib.hid (short_any l v w hl hz)
  clear hl hz
  go_enter Tryd.func7, Tryd.ntmps7
  go_wp2_with fail
  refine C.out.mono ?_
  rintro e w1 ⟨rfl, hb⟩
  go_wp2
  go_ret
  exact ⟨rfl, hb⟩

/-! ### the document's example -/
def s_a : ByteArray := ⟨#[97]⟩
def s_b : ByteArray := ⟨#[98]⟩
def s_x : ByteArray := ⟨#[120]⟩
def anc1 : List It := [⟨s_a, 1, 0, s_x, ⟨#[]⟩⟩, ⟨s_b, 1, 0, ⟨#[]⟩, s_a⟩]
def anc2 : List It := [⟨s_a, 1, 0, ⟨#[]⟩, s_b⟩, ⟨s_b, 1, 0, s_x, ⟨#[]⟩⟩]
theorem anc1_ok : Chk anc1 0 0 := .inr (.inl ⟨by simp [anc1], by
  intro i hi
  match i, hi with
  | 0, _ => decide +kernel
  | 1, _ => decide +kernel, rfl, rfl⟩)
theorem anc2_bad : Chk anc2 22 0 := .inr (.inr ⟨by simp [anc2], fun i hi => by omega, by decide +kernel, by decide⟩)

set_option maxHeartbeats 1000000 in
theorem anchor_any (w : World) (hv : Held w) : Calls Tryd.prog 6 #[] w fun e w' => e = .returned (.bool true) ∧ Below w.heap.size w w' := by
  have HV := Lib.hid hv
  have C : Hid (∀ W (l : List It) (r : Int) (j : Nat) (v : Value), Below w.heap.size w W → Tr W W.heap.size v l → (l = anc1 ∨ l = anc2) → Chk l r j → Calls Tryd.prog 9 #[v] W fun e w' => e = .returned (.tuple #[.int .i64 r, .int .i64 (j : Int)]) ∧ Below W.heap.size W w') := Lib.hid fun W l r j v hW hl hc hr => by
    refine (check_any l v W (HV.out.below HV.out.2 hW) hl (by rcases hc with rfl | rfl <;> decide) (by
      rcases hc with rfl | rfl
      · intro x hx; simp [anc1] at hx; rcases hx with rfl | rfl <;> decide
      · intro x hx; simp [anc2] at hx; rcases hx with rfl | rfl <;> decide)).mono ?_
    rintro e w' ⟨r2, j2, h1, h2, h3⟩
    obtain ⟨rfl, rfl⟩ := hr.same h1
    exact ⟨h2, h3⟩
  clear hv
  go_enter Tryd.func6, Tryd.ntmps6
  go_wp2_with fail
  refine (C.out _ anc1 0 0 _ (by go_grown) (by exact sl_made_at w _ _ 2 5 rfl (by unfold maxLen; omega) rfl) (.inl rfl) anc1_ok).mono ?_
  rintro e w1 ⟨rfl, hb1⟩
  have HB1 : Hid (Below w.heap.size w w1) := Lib.hid ((Below.alloc (Below.refl _ _) (Nat.le_refl _) _).trans (hb1.mono (by simp)))
  clear hb1
  go_wp2_with fail
  refine (C.out _ anc2 22 0 _ (HB1.out.alloc HB1.out.size _) (by exact sl_made_at w1 _ _ 2 5 rfl (by unfold maxLen; omega) rfl) (.inr rfl) anc2_bad).mono ?_
  rintro e w2 ⟨rfl, hb2⟩
  have HB2 : Hid (Below w.heap.size w w2) := Lib.hid ((HB1.out.alloc HB1.out.size _).trans (hb2.mono (by have := HB1.out.size; simp; omega)))
  clear hb2
  go_wp2
  go_ret
  exact ⟨rfl, HB2.out⟩
end Go.Proofs.YtdelgbkllnccoaaDoor
