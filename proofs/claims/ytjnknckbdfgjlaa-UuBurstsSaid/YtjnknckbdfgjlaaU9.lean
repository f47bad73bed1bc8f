/-
  Walks of the reference's small functions: has, Right, newline, digits, letter, six, Head.
-/
import Derived.Test.YtjnknckbdfgjlaaU8
namespace Go.Proofs.Ytjnknckbdfgjlaa
open Go.RowKit

/-- Whether a byte occurs; a plain name, so that the walk does not rewrite it. -/
def hasB (l : List UInt8) (c : UInt8) : Bool := l.contains c
theorem hasB_nil (c : UInt8) : hasB [] c = false := rfl
theorem hasB_same (c : UInt8) (l : List UInt8) : hasB (c :: l) c = true := by simp [hasB]
theorem hasB_cons {c d : UInt8} (l : List UInt8) (h : d ≠ c) : hasB (d :: l) c = hasB l c := by
  simp [hasB, Ne.symm h]

set_option maxHeartbeats 400000 in
theorem has_any (s : ByteArray) (c : UInt8) (w : World) (hs : s.size ≤ maxLen) :
    Calls Try.prog 41 #[.string s, .int .u8 (c.toNat : Nat)] w fun e w' => e = .returned (.bool (hasB (L s) c)) ∧ w = w' := by
  unfold maxLen at hs
  go_enter Try.func41, Try.ntmps41
  go_wp2
  go_loop [5] (fun i => ∃ k : Nat, k ≤ s.size ∧ i = .int .i64 k ∧ hasB (L s) c = hasB ((L s).drop k) c) (fun i => s.size - (intOf i).toNat)
  case atStart => exact ⟨0, by omega, rfl, rfl⟩
  case round =>
    obtain ⟨k, hk, rfl, hr⟩ := hrel
    have HR := Lib.hid hr
    clear hr
    by_cases hlt : k < s.size
    · have i0 := run_idx (P := Try.prog) (k := .i64) Try.underlying9 s (k : Int) k rfl hlt
      obtain ⟨d, hd⟩ : ∃ d, d = (L s).getD k 0 := ⟨_, rfl⟩
      have hdr := drop_getD (L s) hlt
      rw [← hd] at i0 hdr
      have HDR := Lib.hid hdr
      clear hd hdr
      by_cases he : d = c
      · have ht : (((d.toNat : Nat) : Int) == ((c.toNat : Nat) : Int)) = true := by rw [he]; simp
        have HE := Lib.hid he
        clear he
        go_wp2
        go_ret
        exact ⟨ret_bool (by rw [HR.out, HDR.out, HE.out, hasB_same]), rfl⟩
      · have ht : (((d.toNat : Nat) : Int) == ((c.toNat : Nat) : Int)) = false := by
          rw [beq_eq_false_iff_ne]; intro h; exact he (UInt8.toNat_inj.1 (by omega))
        have HE := Lib.hid he
        clear he
        go_wp2
        go_round
        case rel => exact ⟨k + 1, by omega, by go_num, by
          rw [HR.out, HDR.out, hasB_cons _ HE.out]⟩
        case measure => simp [intOf]; omega
    · go_wp2
      go_ret
      have : k = s.size := by omega
      exact ⟨ret_bool (by rw [HR.out, this, List.drop_of_length_le (by rw [L_size]; exact Nat.le_refl _), hasB_nil]), rfl⟩

set_option maxHeartbeats 400000 in
theorem refRight_any (s : ByteArray) (w : World) (hs : s.size ≤ maxLen) :
    Calls Try.prog 30 #[.string s] w fun e w' => e = .returned (.bool (rightB (L s))) ∧ w = w' := by
  have HS := Lib.hid hs
  unfold maxLen at hs
  have hl : (L s).length = s.size := rfl
  by_cases h1 : 1 ≤ s.size
  · have he : (L s).isEmpty = false := by cases h : L s with
      | nil => rw [h] at hl; simp at hl; omega
      | cons a b => rfl
    by_cases h2 : s.size ≤ 4095
    · have hr : rightB (L s) = !(hasB (L s) 0) := by rw [rightB, he, hasB]; simp [hl, h2]
      have HR := Lib.hid hr
      clear hr he hl
      go_enter Try.func30, Try.ntmps30
      go_wp2_with fail
      refine (has_any s 0 _ HS.out).mono ?_
      rintro e w' ⟨rfl, rfl⟩
      go_wp2_with fail
      go_ret
      exact ⟨ret_bool (by rw [HR.out]), rfl⟩
    · have hr : rightB (L s) = false := by rw [rightB, he]; simp [hl]; intro h; omega
      have HR := Lib.hid hr
      clear hr he hl
      go_enter Try.func30, Try.ntmps30
      go_wp2_with fail
      go_ret
      exact ⟨ret_bool (by rw [HR.out]), rfl⟩
  · have hr : rightB (L s) = false := by
      have : L s = [] := List.length_eq_zero_iff.1 (by omega)
      rw [this]; rfl
    have HR := Lib.hid hr
    clear hr hl
    go_enter Try.func30, Try.ntmps30
    go_wp2_with fail
    go_ret
    exact ⟨ret_bool (by rw [HR.out]), rfl⟩

set_option maxHeartbeats 400000 in
theorem newline_any (s : ByteArray) (w : World) (hs : s.size ≤ maxLen) :
    Calls Try.prog 32 #[.string s] w fun e w' => e = .returned (.bool (hasB (L s) 10)) ∧ w = w' := by
  unfold maxLen at hs
  go_enter Try.func32, Try.ntmps32
  go_wp2
  go_loop [3] (fun i => ∃ k : Nat, k ≤ s.size ∧ i = .int .i64 k ∧ hasB (L s) 10 = hasB ((L s).drop k) 10) (fun i => s.size - (intOf i).toNat)
  case atStart => exact ⟨0, by omega, rfl, rfl⟩
  case round =>
    obtain ⟨k, hk, rfl, hr⟩ := hrel
    have HR := Lib.hid hr
    clear hr
    by_cases hlt : k < s.size
    · have i0 := run_idx (P := Try.prog) (k := .i64) Try.underlying9 s (k : Int) k rfl hlt
      obtain ⟨d, hd⟩ : ∃ d, d = (L s).getD k 0 := ⟨_, rfl⟩
      have hdr := drop_getD (L s) hlt
      rw [← hd] at i0 hdr
      have HDR := Lib.hid hdr
      clear hd hdr
      by_cases he : d = 10
      · have ht : (((d.toNat : Nat) : Int) == 10) = true := by rw [he]; rfl
        have HE := Lib.hid he
        clear he
        go_wp2
        go_ret
        exact ⟨ret_bool (by rw [HR.out, HDR.out, HE.out, hasB_same]), rfl⟩
      · have ht : (((d.toNat : Nat) : Int) == 10) = false := by
          rw [beq_eq_false_iff_ne]; intro h; exact he (UInt8.toNat_inj.1 (by have : (10 : UInt8).toNat = 10 := rfl; omega))
        have HE := Lib.hid he
        clear he
        go_wp2
        go_round
        case rel => exact ⟨k + 1, by omega, by go_num, by
          rw [HR.out, HDR.out, hasB_cons _ HE.out]⟩
        case measure => simp [intOf]; omega
    · go_wp2
      go_ret
      have : k = s.size := by omega
      exact ⟨ret_bool (by rw [HR.out, this, List.drop_of_length_le (by rw [L_size]; exact Nat.le_refl _), hasB_nil]), rfl⟩

theorem refLetter_any (x : Int) (w : World) (h0 : 0 ≤ x) (h1 : x < 64) :
    Calls Try.prog 31 #[.int .i64 x] w fun e w' => e = .returned (.int .u8 (((letterL x.toNat).toNat : Nat) : Int)) ∧ w = w' := by
  by_cases hx : x = 0
  · subst hx
    go_enter Try.func31, Try.ntmps31
    go_wp2
    go_ret
    exact ⟨rfl, rfl⟩
  · have hb : (x == 0) = false := by rw [beq_eq_false_iff_ne]; exact hx
    have HX := Lib.hid hx
    clear hx
    go_enter Try.func31, Try.ntmps31
    go_wp2
    go_ret
    exact ⟨ret_int (by have := HX.out; rw [letterL, if_neg (by omega)]; simp; omega), rfl⟩

theorem digits3_any (m : Nat) (w : World) (_h1 : m ≤ 4095) :
    Calls Try.prog 33 #[.int .i64 m] w fun e w' => e = .returned (.string (S (octL m).tail)) ∧ Below w.heap.size w w' := by
  go_enter Try.func33, Try.ntmps33
  go_wp2
  go_ret
  exact ⟨ret_string rfl, by go_grown⟩

/-- What six answers. -/
def sixR (c : UInt8) : Int := if okC c then (sixV c : Nat) else -1
theorem six_any (c : UInt8) (w : World) :
    Calls Try.prog 40 #[.int .u8 (c.toNat : Nat)] w fun e w' => e = .returned (.int .i64 (sixR c)) ∧ w = w' := by
  cases h : okC c
  · have hv : sixR c = -1 := by rw [sixR, h]; rfl
    have h1 : c.toNat < 32 ∨ 96 < c.toNat := by
      simp only [okC, Bool.and_eq_false_iff, decide_eq_false_iff_not] at h; omega
    have HV := Lib.hid hv
    obtain ⟨x, hx⟩ : ∃ x : Nat, x = c.toNat := ⟨_, rfl⟩
    rw [← hx] at h1 ⊢
    clear hx h hv
    rcases h1 with h1 | h1
    all_goals
      go_enter Try.func40, Try.ntmps40
      go_wp2
      go_ret
      exact ⟨ret_int HV.out.symm, rfl⟩
  · have hv : sixR c = (((c.toNat - 32) % 64 : Nat) : Int) := by rw [sixR, h]; rfl
    simp only [okC, Bool.and_eq_true, decide_eq_true_eq] at h
    obtain ⟨h1, h2⟩ := h
    have HV := Lib.hid hv
    obtain ⟨x, hx⟩ : ∃ x : Nat, x = c.toNat := ⟨_, rfl⟩
    rw [← hx] at h1 h2 HV ⊢
    clear hx hv
    go_enter Try.func40, Try.ntmps40
    go_wp2
    go_ret
    refine ⟨ret_int ?_, rfl⟩
    rw [HV.out]
    show ((x : Int) - 32) % 64 = _
    omega
end Go.Proofs.Ytjnknckbdfgjlaa
