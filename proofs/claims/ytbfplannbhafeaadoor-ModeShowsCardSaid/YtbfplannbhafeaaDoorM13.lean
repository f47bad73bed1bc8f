/-
  The document's walks: what is meant, what is gone.
-/
import Derived.Test.YtbfplannbhafeaaDoorM12
namespace Go.Proofs.YtbfplannbhafeaaDoor
open Go.RowKit

def WhoIs (q : List UInt8) (c : Who) : Prop := q.contains 117 = c.u ∧ q.contains 103 = c.g ∧ q.contains 111 = c.o

set_option maxHeartbeats 1000000 in
set_option maxRecDepth 100000 in
theorem meant_any (p q : ByteArray) (c : Who) (i : Nat) (any : Bool) (w : World) (hp : p.size ≤ 100000) (hq : q.size ≤ 100000) (hw : WhoIs (L q) c) (hi : i < 12) :
    Calls Tryd.prog 37 #[.string p, .string q, .int .i64 i, .bool any] w fun e w' => e = .returned (.bool (meantB (L p) c i any)) ∧ w' = w := by
  obtain ⟨u, g, o⟩ := c
  obtain ⟨h1, h2, h3⟩ := hw
  simp only at h1 h2 h3
  obtain ⟨q1, e1⟩ : ∃ b, (L p).contains 114 = b := ⟨_, rfl⟩
  obtain ⟨q2, e2⟩ : ∃ b, (L p).contains 119 = b := ⟨_, rfl⟩
  obtain ⟨q3, e3⟩ : ∃ b, (L p).contains 120 = b := ⟨_, rfl⟩
  obtain ⟨q4, e4⟩ : ∃ b, (L p).contains 88 = b := ⟨_, rfl⟩
  obtain ⟨q5, e5⟩ : ∃ b, (L p).contains 115 = b := ⟨_, rfl⟩
  obtain ⟨q6, e6⟩ : ∃ b, (L p).contains 116 = b := ⟨_, rfl⟩
  have CU : Hid (∀ w, Calls Tryd.prog 30 #[.string q, .int .u8 117] w fun e w' => e = .returned (.bool u) ∧ w' = w) := Lib.hid (fun w => in_any q 117 u w hq h1)
  have CG : Hid (∀ w, Calls Tryd.prog 30 #[.string q, .int .u8 103] w fun e w' => e = .returned (.bool g) ∧ w' = w) := Lib.hid (fun w => in_any q 103 g w hq h2)
  have CO : Hid (∀ w, Calls Tryd.prog 30 #[.string q, .int .u8 111] w fun e w' => e = .returned (.bool o) ∧ w' = w) := Lib.hid (fun w => in_any q 111 o w hq h3)
  have C1 : Hid (∀ w, Calls Tryd.prog 30 #[.string p, .int .u8 114] w fun e w' => e = .returned (.bool q1) ∧ w' = w) := Lib.hid (fun w => in_any p 114 q1 w hp e1)
  have C2 : Hid (∀ w, Calls Tryd.prog 30 #[.string p, .int .u8 119] w fun e w' => e = .returned (.bool q2) ∧ w' = w) := Lib.hid (fun w => in_any p 119 q2 w hp e2)
  have C3 : Hid (∀ w, Calls Tryd.prog 30 #[.string p, .int .u8 120] w fun e w' => e = .returned (.bool q3) ∧ w' = w) := Lib.hid (fun w => in_any p 120 q3 w hp e3)
  have C4 : Hid (∀ w, Calls Tryd.prog 30 #[.string p, .int .u8 88] w fun e w' => e = .returned (.bool q4) ∧ w' = w) := Lib.hid (fun w => in_any p 88 q4 w hp e4)
  have C5 : Hid (∀ w, Calls Tryd.prog 30 #[.string p, .int .u8 115] w fun e w' => e = .returned (.bool q5) ∧ w' = w) := Lib.hid (fun w => in_any p 115 q5 w hp e5)
  have C6 : Hid (∀ w, Calls Tryd.prog 30 #[.string p, .int .u8 116] w fun e w' => e = .returned (.bool q6) ∧ w' = w) := Lib.hid (fun w => in_any p 116 q6 w hp e6)
  have hr : meantB (L p) ⟨u, g, o⟩ i any = (if i = 9 then q6 else if i = 10 then q5 && g else if i = 11 then q5 && u else if whoBit ⟨u, g, o⟩ (i / 3) = false then false else if i % 3 = 0 then q3 || (q4 && any) else if i % 3 = 1 then q2 else q1) := by
    unfold meantB
    rw [e1, e2, e3, e4, e5, e6]
  rw [hr]
  clear hr e1 e2 e3 e4 e5 e6 h1 h2 h3
  have n0 : ∀ w : World, (Instr.index 9 (.string ⟨#[111, 103, 117]⟩) (.int .i64 0)).run Tryd.prog w = .ok (.int .u8 111) w := run_idx (P := Tryd.prog) (k := .i64) Tryd.underlying9 ⟨#[111, 103, 117]⟩ 0 0 rfl (by decide)
  have n1 : ∀ w : World, (Instr.index 9 (.string ⟨#[111, 103, 117]⟩) (.int .i64 1)).run Tryd.prog w = .ok (.int .u8 103) w := run_idx (P := Tryd.prog) (k := .i64) Tryd.underlying9 ⟨#[111, 103, 117]⟩ 1 1 rfl (by decide)
  have n2 : ∀ w : World, (Instr.index 9 (.string ⟨#[111, 103, 117]⟩) (.int .i64 2)).run Tryd.prog w = .ok (.int .u8 117) w := run_idx (P := Tryd.prog) (k := .i64) Tryd.underlying9 ⟨#[111, 103, 117]⟩ 2 2 rfl (by decide)
  have n3 : ∀ w : World, (Instr.index 9 (.string ⟨#[32, 119, 114]⟩) (.int .i64 1)).run Tryd.prog w = .ok (.int .u8 119) w := run_idx (P := Tryd.prog) (k := .i64) Tryd.underlying9 ⟨#[32, 119, 114]⟩ 1 1 rfl (by decide)
  have n4 : ∀ w : World, (Instr.index 9 (.string ⟨#[32, 119, 114]⟩) (.int .i64 2)).run Tryd.prog w = .ok (.int .u8 114) w := run_idx (P := Tryd.prog) (k := .i64) Tryd.underlying9 ⟨#[32, 119, 114]⟩ 2 2 rfl (by decide)
  rcases (by omega : i = 9 ∨ i = 10 ∨ i = 11 ∨ i = 0 ∨ i = 3 ∨ i = 6 ∨ i = 1 ∨ i = 4 ∨ i = 7 ∨ i = 2 ∨ i = 5 ∨ i = 8) with rfl | rfl | rfl | rfl | rfl | rfl | rfl | rfl | rfl | rfl | rfl | rfl
  · cases q6
    all_goals
      go_enter Tryd.func37, Tryd.ntmps37
      go_wp2_with (go_at_call 30; first | (with_reducible refine (CU.out _).mono ?_; rintro e w' ⟨rfl, rfl⟩) | (with_reducible refine (CG.out _).mono ?_; rintro e w' ⟨rfl, rfl⟩) | (with_reducible refine (CO.out _).mono ?_; rintro e w' ⟨rfl, rfl⟩) | (with_reducible refine (C1.out _).mono ?_; rintro e w' ⟨rfl, rfl⟩) | (with_reducible refine (C2.out _).mono ?_; rintro e w' ⟨rfl, rfl⟩) | (with_reducible refine (C3.out _).mono ?_; rintro e w' ⟨rfl, rfl⟩) | (with_reducible refine (C4.out _).mono ?_; rintro e w' ⟨rfl, rfl⟩) | (with_reducible refine (C5.out _).mono ?_; rintro e w' ⟨rfl, rfl⟩) | (with_reducible refine (C6.out _).mono ?_; rintro e w' ⟨rfl, rfl⟩))
      all_goals go_ret
      all_goals exact ⟨rfl, rfl⟩
  · cases q5 <;> cases g
    all_goals
      go_enter Tryd.func37, Tryd.ntmps37
      go_wp2_with (go_at_call 30; first | (with_reducible refine (CU.out _).mono ?_; rintro e w' ⟨rfl, rfl⟩) | (with_reducible refine (CG.out _).mono ?_; rintro e w' ⟨rfl, rfl⟩) | (with_reducible refine (CO.out _).mono ?_; rintro e w' ⟨rfl, rfl⟩) | (with_reducible refine (C1.out _).mono ?_; rintro e w' ⟨rfl, rfl⟩) | (with_reducible refine (C2.out _).mono ?_; rintro e w' ⟨rfl, rfl⟩) | (with_reducible refine (C3.out _).mono ?_; rintro e w' ⟨rfl, rfl⟩) | (with_reducible refine (C4.out _).mono ?_; rintro e w' ⟨rfl, rfl⟩) | (with_reducible refine (C5.out _).mono ?_; rintro e w' ⟨rfl, rfl⟩) | (with_reducible refine (C6.out _).mono ?_; rintro e w' ⟨rfl, rfl⟩))
      all_goals go_ret
      all_goals exact ⟨rfl, rfl⟩
  · cases q5 <;> cases u
    all_goals
      go_enter Tryd.func37, Tryd.ntmps37
      go_wp2_with (go_at_call 30; first | (with_reducible refine (CU.out _).mono ?_; rintro e w' ⟨rfl, rfl⟩) | (with_reducible refine (CG.out _).mono ?_; rintro e w' ⟨rfl, rfl⟩) | (with_reducible refine (CO.out _).mono ?_; rintro e w' ⟨rfl, rfl⟩) | (with_reducible refine (C1.out _).mono ?_; rintro e w' ⟨rfl, rfl⟩) | (with_reducible refine (C2.out _).mono ?_; rintro e w' ⟨rfl, rfl⟩) | (with_reducible refine (C3.out _).mono ?_; rintro e w' ⟨rfl, rfl⟩) | (with_reducible refine (C4.out _).mono ?_; rintro e w' ⟨rfl, rfl⟩) | (with_reducible refine (C5.out _).mono ?_; rintro e w' ⟨rfl, rfl⟩) | (with_reducible refine (C6.out _).mono ?_; rintro e w' ⟨rfl, rfl⟩))
      all_goals go_ret
      all_goals exact ⟨rfl, rfl⟩
  · cases o <;> cases q3 <;> cases q4 <;> cases any
    all_goals
      go_enter Tryd.func37, Tryd.ntmps37
      go_wp2_with (go_at_call 30; first | (with_reducible refine (CU.out _).mono ?_; rintro e w' ⟨rfl, rfl⟩) | (with_reducible refine (CG.out _).mono ?_; rintro e w' ⟨rfl, rfl⟩) | (with_reducible refine (CO.out _).mono ?_; rintro e w' ⟨rfl, rfl⟩) | (with_reducible refine (C1.out _).mono ?_; rintro e w' ⟨rfl, rfl⟩) | (with_reducible refine (C2.out _).mono ?_; rintro e w' ⟨rfl, rfl⟩) | (with_reducible refine (C3.out _).mono ?_; rintro e w' ⟨rfl, rfl⟩) | (with_reducible refine (C4.out _).mono ?_; rintro e w' ⟨rfl, rfl⟩) | (with_reducible refine (C5.out _).mono ?_; rintro e w' ⟨rfl, rfl⟩) | (with_reducible refine (C6.out _).mono ?_; rintro e w' ⟨rfl, rfl⟩))
      all_goals go_ret
      all_goals exact ⟨rfl, rfl⟩
  · cases g <;> cases q3 <;> cases q4 <;> cases any
    all_goals
      go_enter Tryd.func37, Tryd.ntmps37
      go_wp2_with (go_at_call 30; first | (with_reducible refine (CU.out _).mono ?_; rintro e w' ⟨rfl, rfl⟩) | (with_reducible refine (CG.out _).mono ?_; rintro e w' ⟨rfl, rfl⟩) | (with_reducible refine (CO.out _).mono ?_; rintro e w' ⟨rfl, rfl⟩) | (with_reducible refine (C1.out _).mono ?_; rintro e w' ⟨rfl, rfl⟩) | (with_reducible refine (C2.out _).mono ?_; rintro e w' ⟨rfl, rfl⟩) | (with_reducible refine (C3.out _).mono ?_; rintro e w' ⟨rfl, rfl⟩) | (with_reducible refine (C4.out _).mono ?_; rintro e w' ⟨rfl, rfl⟩) | (with_reducible refine (C5.out _).mono ?_; rintro e w' ⟨rfl, rfl⟩) | (with_reducible refine (C6.out _).mono ?_; rintro e w' ⟨rfl, rfl⟩))
      all_goals go_ret
      all_goals exact ⟨rfl, rfl⟩
  · cases u <;> cases q3 <;> cases q4 <;> cases any
    all_goals
      go_enter Tryd.func37, Tryd.ntmps37
      go_wp2_with (go_at_call 30; first | (with_reducible refine (CU.out _).mono ?_; rintro e w' ⟨rfl, rfl⟩) | (with_reducible refine (CG.out _).mono ?_; rintro e w' ⟨rfl, rfl⟩) | (with_reducible refine (CO.out _).mono ?_; rintro e w' ⟨rfl, rfl⟩) | (with_reducible refine (C1.out _).mono ?_; rintro e w' ⟨rfl, rfl⟩) | (with_reducible refine (C2.out _).mono ?_; rintro e w' ⟨rfl, rfl⟩) | (with_reducible refine (C3.out _).mono ?_; rintro e w' ⟨rfl, rfl⟩) | (with_reducible refine (C4.out _).mono ?_; rintro e w' ⟨rfl, rfl⟩) | (with_reducible refine (C5.out _).mono ?_; rintro e w' ⟨rfl, rfl⟩) | (with_reducible refine (C6.out _).mono ?_; rintro e w' ⟨rfl, rfl⟩))
      all_goals go_ret
      all_goals exact ⟨rfl, rfl⟩
  · cases o <;> cases q2
    all_goals
      go_enter Tryd.func37, Tryd.ntmps37
      go_wp2_with (go_at_call 30; first | (with_reducible refine (CU.out _).mono ?_; rintro e w' ⟨rfl, rfl⟩) | (with_reducible refine (CG.out _).mono ?_; rintro e w' ⟨rfl, rfl⟩) | (with_reducible refine (CO.out _).mono ?_; rintro e w' ⟨rfl, rfl⟩) | (with_reducible refine (C1.out _).mono ?_; rintro e w' ⟨rfl, rfl⟩) | (with_reducible refine (C2.out _).mono ?_; rintro e w' ⟨rfl, rfl⟩) | (with_reducible refine (C3.out _).mono ?_; rintro e w' ⟨rfl, rfl⟩) | (with_reducible refine (C4.out _).mono ?_; rintro e w' ⟨rfl, rfl⟩) | (with_reducible refine (C5.out _).mono ?_; rintro e w' ⟨rfl, rfl⟩) | (with_reducible refine (C6.out _).mono ?_; rintro e w' ⟨rfl, rfl⟩))
      all_goals go_ret
      all_goals exact ⟨rfl, rfl⟩
  · cases g <;> cases q2
    all_goals
      go_enter Tryd.func37, Tryd.ntmps37
      go_wp2_with (go_at_call 30; first | (with_reducible refine (CU.out _).mono ?_; rintro e w' ⟨rfl, rfl⟩) | (with_reducible refine (CG.out _).mono ?_; rintro e w' ⟨rfl, rfl⟩) | (with_reducible refine (CO.out _).mono ?_; rintro e w' ⟨rfl, rfl⟩) | (with_reducible refine (C1.out _).mono ?_; rintro e w' ⟨rfl, rfl⟩) | (with_reducible refine (C2.out _).mono ?_; rintro e w' ⟨rfl, rfl⟩) | (with_reducible refine (C3.out _).mono ?_; rintro e w' ⟨rfl, rfl⟩) | (with_reducible refine (C4.out _).mono ?_; rintro e w' ⟨rfl, rfl⟩) | (with_reducible refine (C5.out _).mono ?_; rintro e w' ⟨rfl, rfl⟩) | (with_reducible refine (C6.out _).mono ?_; rintro e w' ⟨rfl, rfl⟩))
      all_goals go_ret
      all_goals exact ⟨rfl, rfl⟩
  · cases u <;> cases q2
    all_goals
      go_enter Tryd.func37, Tryd.ntmps37
      go_wp2_with (go_at_call 30; first | (with_reducible refine (CU.out _).mono ?_; rintro e w' ⟨rfl, rfl⟩) | (with_reducible refine (CG.out _).mono ?_; rintro e w' ⟨rfl, rfl⟩) | (with_reducible refine (CO.out _).mono ?_; rintro e w' ⟨rfl, rfl⟩) | (with_reducible refine (C1.out _).mono ?_; rintro e w' ⟨rfl, rfl⟩) | (with_reducible refine (C2.out _).mono ?_; rintro e w' ⟨rfl, rfl⟩) | (with_reducible refine (C3.out _).mono ?_; rintro e w' ⟨rfl, rfl⟩) | (with_reducible refine (C4.out _).mono ?_; rintro e w' ⟨rfl, rfl⟩) | (with_reducible refine (C5.out _).mono ?_; rintro e w' ⟨rfl, rfl⟩) | (with_reducible refine (C6.out _).mono ?_; rintro e w' ⟨rfl, rfl⟩))
      all_goals go_ret
      all_goals exact ⟨rfl, rfl⟩
  · cases o <;> cases q1
    all_goals
      go_enter Tryd.func37, Tryd.ntmps37
      go_wp2_with (go_at_call 30; first | (with_reducible refine (CU.out _).mono ?_; rintro e w' ⟨rfl, rfl⟩) | (with_reducible refine (CG.out _).mono ?_; rintro e w' ⟨rfl, rfl⟩) | (with_reducible refine (CO.out _).mono ?_; rintro e w' ⟨rfl, rfl⟩) | (with_reducible refine (C1.out _).mono ?_; rintro e w' ⟨rfl, rfl⟩) | (with_reducible refine (C2.out _).mono ?_; rintro e w' ⟨rfl, rfl⟩) | (with_reducible refine (C3.out _).mono ?_; rintro e w' ⟨rfl, rfl⟩) | (with_reducible refine (C4.out _).mono ?_; rintro e w' ⟨rfl, rfl⟩) | (with_reducible refine (C5.out _).mono ?_; rintro e w' ⟨rfl, rfl⟩) | (with_reducible refine (C6.out _).mono ?_; rintro e w' ⟨rfl, rfl⟩))
      all_goals go_ret
      all_goals exact ⟨rfl, rfl⟩
  · cases g <;> cases q1
    all_goals
      go_enter Tryd.func37, Tryd.ntmps37
      go_wp2_with (go_at_call 30; first | (with_reducible refine (CU.out _).mono ?_; rintro e w' ⟨rfl, rfl⟩) | (with_reducible refine (CG.out _).mono ?_; rintro e w' ⟨rfl, rfl⟩) | (with_reducible refine (CO.out _).mono ?_; rintro e w' ⟨rfl, rfl⟩) | (with_reducible refine (C1.out _).mono ?_; rintro e w' ⟨rfl, rfl⟩) | (with_reducible refine (C2.out _).mono ?_; rintro e w' ⟨rfl, rfl⟩) | (with_reducible refine (C3.out _).mono ?_; rintro e w' ⟨rfl, rfl⟩) | (with_reducible refine (C4.out _).mono ?_; rintro e w' ⟨rfl, rfl⟩) | (with_reducible refine (C5.out _).mono ?_; rintro e w' ⟨rfl, rfl⟩) | (with_reducible refine (C6.out _).mono ?_; rintro e w' ⟨rfl, rfl⟩))
      all_goals go_ret
      all_goals exact ⟨rfl, rfl⟩
  · cases u <;> cases q1
    all_goals
      go_enter Tryd.func37, Tryd.ntmps37
      go_wp2_with (go_at_call 30; first | (with_reducible refine (CU.out _).mono ?_; rintro e w' ⟨rfl, rfl⟩) | (with_reducible refine (CG.out _).mono ?_; rintro e w' ⟨rfl, rfl⟩) | (with_reducible refine (CO.out _).mono ?_; rintro e w' ⟨rfl, rfl⟩) | (with_reducible refine (C1.out _).mono ?_; rintro e w' ⟨rfl, rfl⟩) | (with_reducible refine (C2.out _).mono ?_; rintro e w' ⟨rfl, rfl⟩) | (with_reducible refine (C3.out _).mono ?_; rintro e w' ⟨rfl, rfl⟩) | (with_reducible refine (C4.out _).mono ?_; rintro e w' ⟨rfl, rfl⟩) | (with_reducible refine (C5.out _).mono ?_; rintro e w' ⟨rfl, rfl⟩) | (with_reducible refine (C6.out _).mono ?_; rintro e w' ⟨rfl, rfl⟩))
      all_goals go_ret
      all_goals exact ⟨rfl, rfl⟩

set_option maxHeartbeats 1000000 in
set_option maxRecDepth 100000 in
theorem gone_any (q : ByteArray) (c : Who) (i : Nat) (w : World) (hq : q.size ≤ 100000) (hw : WhoIs (L q) c) (hi : i < 12) :
    Calls Tryd.prog 38 #[.string q, .int .i64 i] w fun e w' => e = .returned (.bool (goneB c i)) ∧ w' = w := by
  obtain ⟨u, g, o⟩ := c
  obtain ⟨h1, h2, h3⟩ := hw
  simp only at h1 h2 h3
  have CU : Hid (∀ w, Calls Tryd.prog 30 #[.string q, .int .u8 117] w fun e w' => e = .returned (.bool u) ∧ w' = w) := Lib.hid (fun w => in_any q 117 u w hq h1)
  have CG : Hid (∀ w, Calls Tryd.prog 30 #[.string q, .int .u8 103] w fun e w' => e = .returned (.bool g) ∧ w' = w) := Lib.hid (fun w => in_any q 103 g w hq h2)
  have CO : Hid (∀ w, Calls Tryd.prog 30 #[.string q, .int .u8 111] w fun e w' => e = .returned (.bool o) ∧ w' = w) := Lib.hid (fun w => in_any q 111 o w hq h3)
  clear h1 h2 h3
  have n0 : ∀ w : World, (Instr.index 9 (.string ⟨#[111, 103, 117]⟩) (.int .i64 0)).run Tryd.prog w = .ok (.int .u8 111) w := run_idx (P := Tryd.prog) (k := .i64) Tryd.underlying9 ⟨#[111, 103, 117]⟩ 0 0 rfl (by decide)
  have n1 : ∀ w : World, (Instr.index 9 (.string ⟨#[111, 103, 117]⟩) (.int .i64 1)).run Tryd.prog w = .ok (.int .u8 103) w := run_idx (P := Tryd.prog) (k := .i64) Tryd.underlying9 ⟨#[111, 103, 117]⟩ 1 1 rfl (by decide)
  have n2 : ∀ w : World, (Instr.index 9 (.string ⟨#[111, 103, 117]⟩) (.int .i64 2)).run Tryd.prog w = .ok (.int .u8 117) w := run_idx (P := Tryd.prog) (k := .i64) Tryd.underlying9 ⟨#[111, 103, 117]⟩ 2 2 rfl (by decide)
  rcases (by omega : i = 9 ∨ i = 10 ∨ i = 11 ∨ i = 0 ∨ i = 3 ∨ i = 6 ∨ i = 1 ∨ i = 4 ∨ i = 7 ∨ i = 2 ∨ i = 5 ∨ i = 8) with rfl | rfl | rfl | rfl | rfl | rfl | rfl | rfl | rfl | rfl | rfl | rfl
  all_goals
    cases u <;> cases g <;> cases o
    all_goals
      go_enter Tryd.func38, Tryd.ntmps38
      go_wp2_with (go_at_call 30; first | (with_reducible refine (CU.out _).mono ?_; rintro e w' ⟨rfl, rfl⟩) | (with_reducible refine (CG.out _).mono ?_; rintro e w' ⟨rfl, rfl⟩) | (with_reducible refine (CO.out _).mono ?_; rintro e w' ⟨rfl, rfl⟩))
      all_goals go_ret
      all_goals exact ⟨rfl, rfl⟩
end Go.Proofs.YtbfplannbhafeaaDoor
