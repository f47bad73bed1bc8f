/-
  The walks of Param at the document's example, and of the anchor.
-/
import Derived.Test.YthfnkgofkdahfaaGreatDoorV2
import Derived.Test.YthfnkgofkdahfaaGreatDoorBytes
import Derived.Lib.QuietBelow
import Derived.Lib.Join
namespace Go.Proofs.YthfnkgofkdahfaaGreatDoor
open Go.RowKit

def s_a : ByteArray := ⟨#[97]⟩
def s_b : ByteArray := ⟨#[98]⟩

theorem number2_any (w : World) : Calls Tryz.prog 42 #[.string ⟨#[50]⟩] w fun e w' => e = .returned (.bool true) ∧ Below w.heap.size w w' := by
  have i0 := run_idx (P := Tryz.prog) (k := .i64) Tryz.underlying9 ⟨#[50]⟩ (0 : Int) 0 rfl (by decide)
  have hm := BytesAt.made w 5 ⟨#[50]⟩
  have c0 : (Lib.bytesWorld w 5 ⟨#[50]⟩).cell? ⟨w.heap.size, 0, none⟩ = some (.int .u8 50) := (hm 0 (by decide)).1
  have HB := Lib.hid (below_bytesWorld w 5 ⟨#[50]⟩)
  clear hm
  go_enter Tryz.func42, Tryz.ntmps42
  go_wp2
  go_rounds 2
  go_ret
  exact ⟨rfl, HB.out⟩

theorem param_hash (g : Nat) (w : World) (B : Nat) (h : VAt w B g [s_a, s_b]) :
    Calls Tryz.prog 11 #[.pointer (some ⟨g, 0, none⟩), .string ⟨#[35]⟩] w fun e w' => e = .returned (.tuple #[.string ⟨#[50]⟩, .bool true]) ∧ w = w' := by
  obtain ⟨m, v, st, h1, h2, h3⟩ := h
  obtain ⟨a, c, rfl⟩ := own_shape h2
  have g2 := h1.cell 2
  simp at g2
  have CI : Hid (∀ W, Calls Tryz.prog 40 #[.int .i64 2] W fun e w' => e = .returned (.string ⟨#[50]⟩) ∧ W = w') := Lib.hid fun W => (Tryz.strconv_Itoa_small 2 (by decide) W).mono fun e w' h => ⟨by rw [h.1, Lib.decDigits, dif_pos (by decide)]; rfl, h.2.symm⟩
  clear h1 h2 h3
  go_enter Tryz.func11, Tryz.ntmps11
  go_wp2_with fail
  refine (CI.out _).mono ?_
  rintro e w1 ⟨rfl, rfl⟩
  go_wp2
  go_ret2
  exact ⟨rfl, rfl⟩

theorem param_two (g : Nat) (w : World) (B : Nat) (h : VAt w B g [s_a, s_b]) :
    Calls Tryz.prog 11 #[.pointer (some ⟨g, 0, none⟩), .string ⟨#[50]⟩] w fun e w' => e = .returned (.tuple #[.string ⟨#[98]⟩, .bool true]) ∧ Below w.heap.size w w' := by
  obtain ⟨m, v, st, h1, h2, h3⟩ := h
  have hg := h1.lt
  have g2 := h1.cell 2
  simp at g2
  rcases h2.form with ⟨_, h0⟩ | ⟨q, c, rfl, hq, hc, hcell⟩
  · cases h0
  · have q1 := hcell 1 s_b rfl
    have i0 : ∀ w', (Instr.indexAt 22 (.slice (some ⟨q, 0, none⟩) 2 c) (.int .i64 1)).run Tryz.prog w' = .ok (.pointer (some ⟨q, 0 + 1, none⟩)) w' := by
      obtain ⟨b, off, hix, _, _⟩ := Elems.open (P := Tryz.prog) (h := (show Elems w w.heap.size (some ⟨q, 0, none⟩) 2 ([s_a, s_b].map Value.string) from ⟨rfl, by unfold maxLen; omega, .inr ⟨q, 0, rfl, hq, fun i hi => by
        match i, hi with
        | 0, _ => exact hcell 0 s_a rfl
        | 1, _ => exact hcell 1 s_b rfl⟩⟩)) 22 9 Tryz.underlying22 (by kernel_rfl)
      intro w'
      have he : Tryz.prog.elem 22 = 9 := by simp [Program.elem, Tryz.underlying22]
      rw [run_indexAt_slice _ _ _ _ _ _ _ (by rw [he]; exact Tryz.underlying22), if_pos ⟨by omega, by omega⟩, he]
      obtain ⟨i0, hi, hi1⟩ := Option.map_eq_some_iff.1 (show (Tryz.prog.info? 9).map (·.size) = some 1 by kernel_rfl)
      simp [sizeOf, typeInfo, hi, hi1, Result.andThen, addr_add]
    have CN := Lib.hid (number2_any w)
    have CA : Hid (∀ W, Calls Tryz.prog 43 #[.string ⟨#[50]⟩] W fun e w' => e = .returned (.tuple #[.int .i64 2, .nilIface]) ∧ Below W.heap.size W w') := Lib.hid fun W => (Tryz.strconv_Atoi ⟨#[50]⟩ 2 (by decide) (by decide) W).mono fun e w' ⟨h1, t, h2⟩ => ⟨h1, by rw [h2]; exact below_bytesWorld W _ t⟩
    clear h1 h2 h3 hcell
    go_enter Tryz.func11, Tryz.ntmps11
    go_wp2_with fail
    refine CN.out.mono ?_
    rintro e w1 ⟨rfl, hb1⟩
    have HB1 := Lib.hid hb1
    clear hb1
    go_wp2_with fail
    refine (CA.out _).mono ?_
    rintro e w2 ⟨rfl, hb2⟩
    have HB2 : Hid (Below w.heap.size w w2) := Lib.hid (HB1.out.trans (hb2.mono HB1.out.size))
    have g2' := (HB2.out.cell (p := ⟨g, 2, none⟩) hg).trans g2
    have q1' := (HB2.out.cell (p := ⟨q, 0 + 1, none⟩) hq).trans q1
    clear hb2 g2 q1
    go_wp2
    go_ret2
    exact ⟨rfl, HB2.out⟩

theorem param_all (g : Nat) (w : World) (B : Nat) (h : VAt w B g [s_a, s_b]) :
    Calls Tryz.prog 11 #[.pointer (some ⟨g, 0, none⟩), .string ⟨#[64]⟩] w fun e w' => e = .returned (.tuple #[.string ⟨#[97, 32, 98]⟩, .bool true]) ∧ Below w.heap.size w w' := by
  obtain ⟨m, v, st, h1, h2, h3⟩ := h
  have g2 := h1.cell 2
  simp at g2
  rcases h2.form with ⟨_, h0⟩ | ⟨q, c, rfl, hq, hc, hcell⟩
  · cases h0
  · have CJ : Hid (∀ d os, Calls Tryz.prog 41 #[.slice (some ⟨q, 0, none⟩) 2 c, .string ⟨#[32]⟩] (Sort.grow (redrawn w d) os) fun e w'' => e = .returned (.string ⟨#[97, 32, 98]⟩) ∧ ∃ q : Regrown, w'' = Sort.grow (redrawn w q.d) q.os) := Lib.hid fun d os =>
      Calls.regrown_of ((Tryz.strings_Join q 0 c [s_a, s_b] ⟨#[32]⟩ _ (fun j x hj => cell_regrown (hcell j x hj) d os) (Nat.lt_of_lt_of_le hq (below_regrown w d os).size) (by decide) hc (by decide)).mono fun e w' h => ⟨by rw [h.1]; rfl, h.2⟩)
    have r2 : ∀ d os, (Sort.grow (redrawn w d) os).cell? ⟨g, 2, none⟩ = some (.slice (some ⟨q, 0, none⟩) 2 c) := fun d os => cell_regrown g2 d os
    clear h1 h2 h3 hcell
    go_enter Tryz.func11, Tryz.ntmps11
    go_wp2_with fail
    refine wp_region_quiet_below (by kernel_rfl) (by kernel_rfl) ?_
    repeat (go_big_quiet_step (with_reducible first | exact CJ.out _ _))
    refine wpQuiet_nil ?_
    intro _ hw'
    obtain ⟨⟨dq, osq⟩, hw''⟩ := hw'
    subst hw''
    go_wp2
    go_ret2
    exact ⟨rfl, below_regrown w dq osq⟩

set_option maxHeartbeats 1000000 in
theorem anchor_any (w : World) : Calls Tryz.prog 4 #[] w fun e w' => e = .returned (.bool true) ∧ Below w.heap.size w w' := by
  have CN : Hid (∀ W g, g < W.heap.size → W.cell? ⟨g, 0, none⟩ = some (.string ⟨#[97]⟩) → W.cell? ⟨g, 1, none⟩ = some (.string ⟨#[98]⟩) → Calls Tryz.prog 6 #[.slice none 0 0, .string ⟨#[115, 104]⟩, .slice (some ⟨g, 0, none⟩) 2 2] W fun e w' => ∃ g, e = .returned (.pointer (some ⟨g, 0, none⟩)) ∧ VAt w' W.heap.size g [s_a, s_b] ∧ W.heap.size ≤ g ∧ Below W.heap.size W w') := Lib.hid fun W g hg h0 h1 =>
    new_any _ 2 2 [s_a, s_b] W W.heap.size ⟨rfl, by unfold maxLen; omega, .inr ⟨g, 0, rfl, hg, fun i hi => by
      match i, hi with
      | 0, _ => exact h0
      | 1, _ => exact h1⟩⟩ (Nat.le_refl _) (by omega)
  go_enter Tryz.func4, Tryz.ntmps4
  go_wp2_with fail
  refine (CN.out _ w.heap.size (by simp) (by simp) (by simp)).mono ?_
  rintro e w1 ⟨g, rfl, hv1, hg1, hb1⟩
  have HB1 : Hid (Below w.heap.size w w1) := Lib.hid ((Below.alloc (Below.refl _ _) (Nat.le_refl _) _).trans (hb1.mono (by simp)))
  have P1 := Lib.hid (param_hash g w1 _ hv1)
  have HV1 := Lib.hid hv1
  clear hv1 hg1 hb1
  go_wp2_with fail
  refine P1.out.mono ?_
  rintro e w2 ⟨rfl, rfl⟩
  have P2 := Lib.hid (param_two g w1 _ HV1.out)
  go_wp2_with fail
  refine P2.out.mono ?_
  rintro e w2 ⟨rfl, hb2⟩
  have HB2 : Hid (Below w.heap.size w w2) := Lib.hid (HB1.out.trans (hb2.mono HB1.out.size))
  have P3 := Lib.hid (param_all g w2 _ (HV1.out.below hb2))
  clear hb2
  go_wp2_with fail
  refine P3.out.mono ?_
  rintro e w3 ⟨rfl, hb3⟩
  have HB3 : Hid (Below w.heap.size w w3) := Lib.hid (HB2.out.trans (hb3.mono HB2.out.size))
  clear hb3
  go_wp2
  go_ret
  exact ⟨rfl, HB3.out⟩
end Go.Proofs.YthfnkgofkdahfaaGreatDoor
