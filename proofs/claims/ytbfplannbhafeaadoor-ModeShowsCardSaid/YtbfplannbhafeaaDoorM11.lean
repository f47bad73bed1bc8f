/-
  The document's bits: Has, pow, Put, in.
-/
import Derived.Test.YtbfplannbhafeaaDoorM6
namespace Go.Proofs.YtbfplannbhafeaaDoor
open Go.RowKit

def putN (m b : Nat) (y : Bool) : Nat := if m.testBit b = y then m else if y then m + 2 ^ b else m - 2 ^ b

theorem split_at (m b : Nat) : m = 2 ^ b * (m / 2 ^ b) + m % 2 ^ b := (Nat.div_add_mod m (2 ^ b)).symm
theorem put_bit (m b : Nat) (y : Bool) (i : Nat) : (putN m b y).testBit i = if i = b then y else m.testBit i := by
  unfold putN
  split
  · rename_i h
    split
    · rename_i e; rw [e, h]
    · rfl
  · rename_i h
    have hp : 0 < 2 ^ b := Nat.pow_pos (by omega)
    have hr : m % 2 ^ b < 2 ^ b := Nat.mod_lt _ hp
    have hm := split_at m b
    generalize hq : m / 2 ^ b = q at hm
    generalize hrr : m % 2 ^ b = r at hm hr
    have hbit : m.testBit b = q.testBit 0 := by
      rw [hm, Nat.testBit_two_pow_mul_add q hr, if_neg (by omega), Nat.sub_self]
    have hq0 : q.testBit 0 = decide (q % 2 = 1) := Nat.testBit_zero q
    cases y with
    | true =>
      have hq2 : q % 2 = 0 := by
        rw [hbit, hq0] at h
        simp at h; omega
      have e : m + 2 ^ b = 2 ^ b * (q + 1) + r := by rw [Nat.mul_add]; omega
      rw [if_pos rfl, e, Nat.testBit_two_pow_mul_add _ hr]
      conv => rhs; rw [hm, Nat.testBit_two_pow_mul_add _ hr]
      by_cases h1 : i = b
      · subst h1
        rw [if_neg (by omega), if_pos rfl, Nat.sub_self, Nat.testBit_zero]
        simp; omega
      · rw [if_neg h1]
        by_cases h2 : i < b
        · rw [if_pos h2, if_pos h2]
        · rw [if_neg h2, if_neg h2]
          obtain ⟨k, hk⟩ : ∃ k, i - b = k + 1 := ⟨i - b - 1, by omega⟩
          rw [hk, Nat.testBit_succ, Nat.testBit_succ, show (q + 1) / 2 = q / 2 by omega]
    | false =>
      have hq2 : q % 2 = 1 := by
        rw [hbit, hq0] at h
        simp at h; omega
      obtain ⟨z, hz⟩ : ∃ z, q = z + 1 := ⟨q - 1, by omega⟩
      have e : m - 2 ^ b = 2 ^ b * z + r := by rw [hm, hz, Nat.mul_add]; omega
      rw [if_neg (by decide), e, Nat.testBit_two_pow_mul_add _ hr]
      conv => rhs; rw [hm, Nat.testBit_two_pow_mul_add _ hr]
      by_cases h1 : i = b
      · subst h1
        rw [if_neg (by omega), if_pos rfl, Nat.sub_self, Nat.testBit_zero]
        simp; omega
      · rw [if_neg h1]
        by_cases h2 : i < b
        · rw [if_pos h2, if_pos h2]
        · rw [if_neg h2, if_neg h2]
          obtain ⟨k, hk⟩ : ∃ k, i - b = k + 1 := ⟨i - b - 1, by omega⟩
          rw [hk, Nat.testBit_succ, Nat.testBit_succ, show z / 2 = q / 2 by omega]

theorem lt_4096 {m : Nat} (h : ∀ i, 12 ≤ i → m.testBit i = false) : m < 4096 := Nat.lt_pow_two_of_testBit (n := 12) m fun i hi => h i hi
theorem bit_high {m i : Nat} (h : m < 4096) (hi : 12 ≤ i) : m.testBit i = false := Nat.testBit_lt_two_pow (Nat.lt_of_lt_of_le h (Nat.pow_le_pow_right (n := 2) (i := 12) (by omega) hi))
theorem put_lt {m b : Nat} (y : Bool) (hm : m < 4096) (hb : b < 12) : putN m b y < 4096 := lt_4096 fun i hi => by
  rw [put_bit, if_neg (by omega)]; exact bit_high hm hi
theorem put_le {m b : Nat} (h : m.testBit b = true) : 2 ^ b ≤ m := by
  have := Nat.ge_two_pow_of_testBit h
  exact this

theorem has_any (m b : Nat) (w : World) (hm : m < 4096) (hb : b ≤ 12) (y : Bool) (hy : m.testBit b = y) :
    Calls Tryd.prog 25 #[.int .i64 m, .int .i64 b] w fun e w' => e = .returned (.bool y) ∧ w' = w := by
  go_enter Tryd.func25, Tryd.ntmps25
  go_wp2_with fail
  go_loop [0, 5] (fun n i => ∃ j x : Nat, j ≤ b ∧ i = .int .i64 j ∧ n = .int .i64 x ∧ x = m / 2 ^ j ∧ x < 4096) (fun _ i => b - (intOf i).toNat)
  case atStart => exact ⟨0, m, Nat.zero_le _, rfl, rfl, by simp, hm⟩
  case round =>
    obtain ⟨j, x, hj, rfl, rfl, hx, hx4⟩ := hrel
    by_cases hlt : j < b
    · have HX : Hid (x / 2 = m / 2 ^ (j + 1)) := Lib.hid (by rw [hx, Nat.div_div_eq_div_mul, Nat.pow_succ])
      clear hx hy
      go_wp2_with fail
      go_round
      case rel => exact ⟨j + 1, x / 2, by omega, by go_num, by go_num, HX.out, by omega⟩
      case measure => simp [intOf]; omega
    · obtain rfl : j = b := by omega
      have ht : ((x : Int) % 2 == 1) = y := by
        rw [← hy, Nat.testBit_eq_decide_div_mod_eq, ← hx, Bool.eq_iff_iff, beq_iff_eq, decide_eq_true_iff]
        omega
      clear hx hy
      go_wp2_with fail
      go_ret
      exact ⟨ret_bool (by first | rfl | exact ht | (rw [← ht])), rfl⟩

theorem pow_any (b : Nat) (w : World) (hb : b ≤ 12) :
    Calls Tryd.prog 32 #[.int .i64 b] w fun e w' => e = .returned (.int .i64 ((2 ^ b : Nat))) ∧ w' = w := by
  obtain ⟨p, hp⟩ : ∃ p, p = 2 ^ b := ⟨_, rfl⟩
  rw [← hp]
  have HP := Lib.hid hp
  clear hp
  go_enter Tryd.func32, Tryd.ntmps32
  go_wp2_with fail
  go_loop [3, 4] (fun n i => ∃ j x : Nat, j ≤ b ∧ i = .int .i64 j ∧ n = .int .i64 x ∧ x = 2 ^ j ∧ x ≤ 4096) (fun _ i => b - (intOf i).toNat)
  case atStart => exact ⟨0, 1, Nat.zero_le _, rfl, rfl, rfl, by omega⟩
  case round =>
    obtain ⟨j, x, hj, rfl, rfl, hx, hx4⟩ := hrel
    by_cases hlt : j < b
    · have HX : Hid (2 * x = 2 ^ (j + 1)) := Lib.hid (by rw [hx, Nat.pow_succ]; omega)
      have hle : 2 * x ≤ 4096 := by
        rw [HX.out]
        exact Nat.pow_le_pow_right (n := 2) (i := j + 1) (j := 12) (by omega) (by omega)
      clear hx
      go_wp2_with fail
      go_round
      case rel => exact ⟨j + 1, 2 * x, by omega, by go_num, by go_num, HX.out, hle⟩
      case measure => simp [intOf]; omega
    · obtain rfl : j = b := by omega
      have HX : Hid (x = p) := Lib.hid (by rw [hx, HP.out])
      clear hx
      go_wp2_with fail
      go_ret
      exact ⟨ret_int (by rw [HX.out]), rfl⟩

theorem put_any (m b : Nat) (y : Bool) (w : World) (hm : m < 4096) (hb : b < 12) :
    Calls Tryd.prog 26 #[.int .i64 m, .int .i64 b, .bool y] w fun e w' => e = .returned (.int .i64 (putN m b y : Nat)) ∧ w' = w := by
  obtain ⟨z, hz⟩ : ∃ z, z = m.testBit b := ⟨_, rfl⟩
  have C1 := Lib.hid (fun w => has_any m b w hm (by omega) z hz.symm)
  have C2 := Lib.hid (fun w => pow_any b w (by omega))
  have hp4 : 2 ^ b ≤ 4096 := Nat.pow_le_pow_right (n := 2) (i := b) (j := 12) (by omega) (by omega)
  have hle : z = true → 2 ^ b ≤ m := fun h => put_le (by rw [← hz, h])
  have hput : putN m b y = if z = y then m else if y then m + 2 ^ b else m - 2 ^ b := by rw [putN, hz]
  obtain ⟨p, hp⟩ : ∃ p, p = 2 ^ b := ⟨_, rfl⟩
  rw [← hp] at C2 hp4 hle hput
  obtain ⟨r, hr⟩ : ∃ r, r = putN m b y := ⟨_, rfl⟩
  rw [← hr]
  rw [← hr] at hput
  clear hp hr hz
  cases z
  all_goals
    cases y
    all_goals
      have HR : Hid _ := Lib.hid hput
      simp at hle
      clear hput
      go_enter Tryd.func26, Tryd.ntmps26
      go_wp2_with fail
      refine (C1.out _).mono ?_
      rintro e w1 ⟨rfl, rfl⟩
      go_wp2_with fail
      try (refine (C2.out _).mono ?_; rintro e w1 ⟨rfl, rfl⟩; go_wp2_with fail)
      go_ret
      exact ⟨ret_int (by rw [HR.out]; simp; try omega), rfl⟩

set_option maxHeartbeats 400000 in
theorem in_any (s : ByteArray) (c : UInt8) (b : Bool) (w : World) (hs : s.size ≤ 100000) (hb : (L s).contains c = b) :
    Calls Tryd.prog 30 #[.string s, .int .u8 (c.toNat : Nat)] w fun e w' => e = .returned (.bool b) ∧ w' = w := by
  have HB := Lib.hid hb
  clear hb
  go_enter Tryd.func30, Tryd.ntmps30
  go_wp2
  go_loop [5] (fun i => ∃ k : Nat, k ≤ s.size ∧ i = .int .i64 k ∧ b = ((L s).drop k).contains c) (fun i => s.size - (intOf i).toNat)
  case atStart => exact ⟨0, by omega, rfl, HB.out.symm⟩
  case round =>
    obtain ⟨k, hk, rfl, hr⟩ := hrel
    by_cases hlt : k < s.size
    · have i0 := run_idx (P := Tryd.prog) (k := .i64) Tryd.underlying9 s (k : Int) k rfl hlt
      rw [drop_getD (L s) (show k < (L s).length from hlt), List.contains_cons] at hr
      obtain ⟨d, hd⟩ : ∃ d, d = (L s).getD k 0 := ⟨_, rfl⟩
      rw [← hd] at i0 hr
      clear hd
      by_cases he : d = c
      · have ht := eq_byte he
        have HR : Hid (b = true) := Lib.hid (by rw [hr, he]; simp)
        clear he hr
        go_wp2
        go_ret
        exact ⟨ret_bool HR.out.symm, rfl⟩
      · have ht := ne_byte he
        have HR : Hid (b = ((L s).drop (k + 1)).contains c) := Lib.hid (by rw [hr, beq_eq_false_iff_ne.2 (Ne.symm he), Bool.false_or])
        clear he hr
        go_wp2
        go_round
        case rel => exact ⟨k + 1, by omega, by go_num, HR.out⟩
        case measure => simp [intOf]; omega
    · have HR : Hid (b = false) := Lib.hid (by rw [hr, List.drop_of_length_le (by rw [L_size]; omega)]; rfl)
      clear hr
      go_wp2
      go_ret
      exact ⟨ret_bool HR.out.symm, rfl⟩
end Go.Proofs.YtbfplannbhafeaaDoor
