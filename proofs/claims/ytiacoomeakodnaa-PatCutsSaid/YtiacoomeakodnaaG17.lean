/-
  The document's In: the walks.
-/
import Derived.Test.YtiacoomeakodnaaG16
namespace Go.Proofs.Ytiacoomeakodnaa
open Go.RowKit

theorem le_byte (b c : UInt8) : (decide (b ≤ c)) = decide (b.toNat ≤ c.toNat) := by simp [UInt8.le_iff_toNat_le]
theorem ret_in {a b : Bool} (h : a = b) (c : Bool) : Ending.returned (.tuple #[.bool a, .bool c]) = .returned (.tuple #[.bool b, .bool c]) := by rw [h]

set_option maxRecDepth 100000 in
set_option maxHeartbeats 4000000 in
theorem rin_Alpha (c : UInt8) (w : World) : Calls Try.prog 29 #[.string ⟨#[97, 108, 112, 104, 97]⟩, .int .u8 ((c.toNat : Nat) : Int)] w fun e w' => e = .returned (.tuple #[.bool (([(97, 122), (65, 90)] : List Span).any (inSpan c)), .bool true]) ∧ w = w' := by
  obtain ⟨R, hR⟩ : ∃ R, R = ([(97, 122), (65, 90)] : List Span).any (inSpan c) := ⟨_, rfl⟩
  rw [← hR]
  have hc := c.toNat_lt
  simp only [List.any_cons, List.any_nil, inSpan, le_byte] at hR
  have HR := Lib.hid hR
  clear hR
  go_enter Try.func29, Try.ntmps29
  go_wp2
  all_goals
    go_ret2
    refine ⟨ret_in ?_ true, rfl⟩
    rw [HR.out, Bool.eq_iff_iff]
    simp <;> omega

set_option maxRecDepth 100000 in
set_option maxHeartbeats 4000000 in
theorem rin_Digit (c : UInt8) (w : World) : Calls Try.prog 29 #[.string ⟨#[100, 105, 103, 105, 116]⟩, .int .u8 ((c.toNat : Nat) : Int)] w fun e w' => e = .returned (.tuple #[.bool (([(48, 57)] : List Span).any (inSpan c)), .bool true]) ∧ w = w' := by
  obtain ⟨R, hR⟩ : ∃ R, R = ([(48, 57)] : List Span).any (inSpan c) := ⟨_, rfl⟩
  rw [← hR]
  have hc := c.toNat_lt
  simp only [List.any_cons, List.any_nil, inSpan, le_byte] at hR
  have HR := Lib.hid hR
  clear hR
  go_enter Try.func29, Try.ntmps29
  go_wp2
  all_goals
    go_ret2
    refine ⟨ret_in ?_ true, rfl⟩
    rw [HR.out, Bool.eq_iff_iff]
    simp <;> omega

set_option maxRecDepth 100000 in
set_option maxHeartbeats 4000000 in
theorem rin_Alnum (c : UInt8) (w : World) : Calls Try.prog 29 #[.string ⟨#[97, 108, 110, 117, 109]⟩, .int .u8 ((c.toNat : Nat) : Int)] w fun e w' => e = .returned (.tuple #[.bool (([(97, 122), (65, 90), (48, 57)] : List Span).any (inSpan c)), .bool true]) ∧ w = w' := by
  obtain ⟨R, hR⟩ : ∃ R, R = ([(97, 122), (65, 90), (48, 57)] : List Span).any (inSpan c) := ⟨_, rfl⟩
  rw [← hR]
  have hc := c.toNat_lt
  simp only [List.any_cons, List.any_nil, inSpan, le_byte] at hR
  have HR := Lib.hid hR
  clear hR
  go_enter Try.func29, Try.ntmps29
  go_wp2
  all_goals
    go_ret2
    refine ⟨ret_in ?_ true, rfl⟩
    rw [HR.out, Bool.eq_iff_iff]
    simp <;> omega

set_option maxRecDepth 100000 in
set_option maxHeartbeats 4000000 in
theorem rin_Upper (c : UInt8) (w : World) : Calls Try.prog 29 #[.string ⟨#[117, 112, 112, 101, 114]⟩, .int .u8 ((c.toNat : Nat) : Int)] w fun e w' => e = .returned (.tuple #[.bool (([(65, 90)] : List Span).any (inSpan c)), .bool true]) ∧ w = w' := by
  obtain ⟨R, hR⟩ : ∃ R, R = ([(65, 90)] : List Span).any (inSpan c) := ⟨_, rfl⟩
  rw [← hR]
  have hc := c.toNat_lt
  simp only [List.any_cons, List.any_nil, inSpan, le_byte] at hR
  have HR := Lib.hid hR
  clear hR
  go_enter Try.func29, Try.ntmps29
  go_wp2
  all_goals
    go_ret2
    refine ⟨ret_in ?_ true, rfl⟩
    rw [HR.out, Bool.eq_iff_iff]
    simp <;> omega

set_option maxRecDepth 100000 in
set_option maxHeartbeats 4000000 in
theorem rin_Lower (c : UInt8) (w : World) : Calls Try.prog 29 #[.string ⟨#[108, 111, 119, 101, 114]⟩, .int .u8 ((c.toNat : Nat) : Int)] w fun e w' => e = .returned (.tuple #[.bool (([(97, 122)] : List Span).any (inSpan c)), .bool true]) ∧ w = w' := by
  obtain ⟨R, hR⟩ : ∃ R, R = ([(97, 122)] : List Span).any (inSpan c) := ⟨_, rfl⟩
  rw [← hR]
  have hc := c.toNat_lt
  simp only [List.any_cons, List.any_nil, inSpan, le_byte] at hR
  have HR := Lib.hid hR
  clear hR
  go_enter Try.func29, Try.ntmps29
  go_wp2
  all_goals
    go_ret2
    refine ⟨ret_in ?_ true, rfl⟩
    rw [HR.out, Bool.eq_iff_iff]
    simp <;> omega

set_option maxRecDepth 100000 in
set_option maxHeartbeats 4000000 in
theorem rin_Space (c : UInt8) (w : World) : Calls Try.prog 29 #[.string ⟨#[115, 112, 97, 99, 101]⟩, .int .u8 ((c.toNat : Nat) : Int)] w fun e w' => e = .returned (.tuple #[.bool (([(9, 13), (32, 32)] : List Span).any (inSpan c)), .bool true]) ∧ w = w' := by
  obtain ⟨R, hR⟩ : ∃ R, R = ([(9, 13), (32, 32)] : List Span).any (inSpan c) := ⟨_, rfl⟩
  rw [← hR]
  have hc := c.toNat_lt
  simp only [List.any_cons, List.any_nil, inSpan, le_byte] at hR
  have HR := Lib.hid hR
  clear hR
  go_enter Try.func29, Try.ntmps29
  go_wp2
  all_goals
    go_ret2
    refine ⟨ret_in ?_ true, rfl⟩
    rw [HR.out, Bool.eq_iff_iff]
    simp <;> omega

set_option maxRecDepth 100000 in
set_option maxHeartbeats 4000000 in
theorem rin_Blank (c : UInt8) (w : World) : Calls Try.prog 29 #[.string ⟨#[98, 108, 97, 110, 107]⟩, .int .u8 ((c.toNat : Nat) : Int)] w fun e w' => e = .returned (.tuple #[.bool (([(9, 9), (32, 32)] : List Span).any (inSpan c)), .bool true]) ∧ w = w' := by
  obtain ⟨R, hR⟩ : ∃ R, R = ([(9, 9), (32, 32)] : List Span).any (inSpan c) := ⟨_, rfl⟩
  rw [← hR]
  have hc := c.toNat_lt
  simp only [List.any_cons, List.any_nil, inSpan, le_byte] at hR
  have HR := Lib.hid hR
  clear hR
  go_enter Try.func29, Try.ntmps29
  go_wp2
  all_goals
    go_ret2
    refine ⟨ret_in ?_ true, rfl⟩
    rw [HR.out, Bool.eq_iff_iff]
    simp <;> omega

set_option maxRecDepth 100000 in
set_option maxHeartbeats 4000000 in
theorem rin_Punct (c : UInt8) (w : World) : Calls Try.prog 29 #[.string ⟨#[112, 117, 110, 99, 116]⟩, .int .u8 ((c.toNat : Nat) : Int)] w fun e w' => e = .returned (.tuple #[.bool (([(33, 47), (58, 64), (91, 96), (123, 126)] : List Span).any (inSpan c)), .bool true]) ∧ w = w' := by
  obtain ⟨R, hR⟩ : ∃ R, R = ([(33, 47), (58, 64), (91, 96), (123, 126)] : List Span).any (inSpan c) := ⟨_, rfl⟩
  rw [← hR]
  have hc := c.toNat_lt
  simp only [List.any_cons, List.any_nil, inSpan, le_byte] at hR
  have HR := Lib.hid hR
  clear hR
  go_enter Try.func29, Try.ntmps29
  go_wp2
  all_goals
    go_ret2
    refine ⟨ret_in ?_ true, rfl⟩
    rw [HR.out, Bool.eq_iff_iff]
    simp <;> omega

set_option maxRecDepth 100000 in
set_option maxHeartbeats 4000000 in
theorem rin_Xdigit (c : UInt8) (w : World) : Calls Try.prog 29 #[.string ⟨#[120, 100, 105, 103, 105, 116]⟩, .int .u8 ((c.toNat : Nat) : Int)] w fun e w' => e = .returned (.tuple #[.bool (([(48, 57), (97, 102), (65, 70)] : List Span).any (inSpan c)), .bool true]) ∧ w = w' := by
  obtain ⟨R, hR⟩ : ∃ R, R = ([(48, 57), (97, 102), (65, 70)] : List Span).any (inSpan c) := ⟨_, rfl⟩
  rw [← hR]
  have hc := c.toNat_lt
  simp only [List.any_cons, List.any_nil, inSpan, le_byte] at hR
  have HR := Lib.hid hR
  clear hR
  go_enter Try.func29, Try.ntmps29
  go_wp2
  all_goals
    go_ret2
    refine ⟨ret_in ?_ true, rfl⟩
    rw [HR.out, Bool.eq_iff_iff]
    simp <;> omega

set_option maxRecDepth 100000 in
set_option maxHeartbeats 4000000 in
theorem rin_Cntrl (c : UInt8) (w : World) : Calls Try.prog 29 #[.string ⟨#[99, 110, 116, 114, 108]⟩, .int .u8 ((c.toNat : Nat) : Int)] w fun e w' => e = .returned (.tuple #[.bool (([(0, 31), (127, 127)] : List Span).any (inSpan c)), .bool true]) ∧ w = w' := by
  obtain ⟨R, hR⟩ : ∃ R, R = ([(0, 31), (127, 127)] : List Span).any (inSpan c) := ⟨_, rfl⟩
  rw [← hR]
  have hc := c.toNat_lt
  simp only [List.any_cons, List.any_nil, inSpan, le_byte] at hR
  have HR := Lib.hid hR
  clear hR
  go_enter Try.func29, Try.ntmps29
  go_wp2
  all_goals
    go_ret2
    refine ⟨ret_in ?_ true, rfl⟩
    rw [HR.out, Bool.eq_iff_iff]
    simp <;> omega

set_option maxRecDepth 100000 in
set_option maxHeartbeats 4000000 in
theorem rin_Print (c : UInt8) (w : World) : Calls Try.prog 29 #[.string ⟨#[112, 114, 105, 110, 116]⟩, .int .u8 ((c.toNat : Nat) : Int)] w fun e w' => e = .returned (.tuple #[.bool (([(32, 126)] : List Span).any (inSpan c)), .bool true]) ∧ w = w' := by
  obtain ⟨R, hR⟩ : ∃ R, R = ([(32, 126)] : List Span).any (inSpan c) := ⟨_, rfl⟩
  rw [← hR]
  have hc := c.toNat_lt
  simp only [List.any_cons, List.any_nil, inSpan, le_byte] at hR
  have HR := Lib.hid hR
  clear hR
  go_enter Try.func29, Try.ntmps29
  go_wp2
  all_goals
    go_ret2
    refine ⟨ret_in ?_ true, rfl⟩
    rw [HR.out, Bool.eq_iff_iff]
    simp <;> omega

set_option maxRecDepth 100000 in
set_option maxHeartbeats 4000000 in
theorem rin_Graph (c : UInt8) (w : World) : Calls Try.prog 29 #[.string ⟨#[103, 114, 97, 112, 104]⟩, .int .u8 ((c.toNat : Nat) : Int)] w fun e w' => e = .returned (.tuple #[.bool (([(33, 126)] : List Span).any (inSpan c)), .bool true]) ∧ w = w' := by
  obtain ⟨R, hR⟩ : ∃ R, R = ([(33, 126)] : List Span).any (inSpan c) := ⟨_, rfl⟩
  rw [← hR]
  have hc := c.toNat_lt
  simp only [List.any_cons, List.any_nil, inSpan, le_byte] at hR
  have HR := Lib.hid hR
  clear hR
  go_enter Try.func29, Try.ntmps29
  go_wp2
  all_goals
    go_ret2
    refine ⟨ret_in ?_ true, rfl⟩
    rw [HR.out, Bool.eq_iff_iff]
    simp <;> omega

end Go.Proofs.Ytiacoomeakodnaa
