/-
  The walk of the reference's Head.
-/
import Derived.Test.YtjnknckbdfgjlaaU9
namespace Go.Proofs.Ytjnknckbdfgjlaa
open Go.RowKit

def headR : Option (Nat × List UInt8) → Value
  | some (m, n) => .tuple #[.int .i64 (m : Nat), .string (S n), .bool true]
  | none => .tuple #[.int .i64 0, .string ⟨#[]⟩, .bool false]

theorem tuple3_int {a b : Int} {u v : Value} (h : a = b) : Ending.returned (.tuple #[.int .i64 a, u, v]) = .returned (.tuple #[.int .i64 b, u, v]) := by rw [h]

set_option maxHeartbeats 2000000 in
theorem refHead_any (s : ByteArray) (w : World) (hs : s.size ≤ 100000) :
    Calls Try.prog 13 #[.string s] w fun e w' => e = .returned (headR (headP (L s))) ∧ Below w.heap.size w w' := by
  have hls : (L s).length = s.size := rfl
  by_cases h11 : 11 ≤ s.size
  · have ht6 : L (s.extract 0 6) = (L s).take 6 := by rw [L_extract]; rfl
    have hd10 : L (s.extract 10 s.size) = (L s).drop 10 := by rw [L_extract, List.take_of_length_le (by simp; omega)]
    by_cases h6 : (L s).take 6 = [98, 101, 103, 105, 110, 32]
    · have t6 : ((s.extract 0 6).toList == [98, 101, 103, 105, 110, 32]) = true := by rw [toList_L, ht6, h6]; rfl
      have i9 := run_idx (P := Try.prog) (k := .i64) Try.underlying9 s 9 9 rfl (by omega)
      obtain ⟨c9, hc9⟩ : ∃ c, c = (L s).getD 9 0 := ⟨_, rfl⟩
      rw [← hc9] at i9
      by_cases h9 : c9 = 32
      · have t9 : (((c9.toNat : Nat) : Int) == 32) = true := by rw [h9]; rfl
        have t9' : (((c9.toNat : Nat) : Int) != 32) = false := by rw [h9]; rfl
        cases hr : rightB ((L s).drop 10)
        · have hv : headP (L s) = none := by rw [headP, if_neg (fun h => by rw [hr] at h; cases h.2.2.2.1)]
          have HV := Lib.hid hv
          have HR := Lib.hid hr
          have HD := Lib.hid hd10
          clear hv hr hd10 h9 hc9 h6 ht6 hls
          go_enter Try.func13, Try.ntmps13
          go_wp2_with fail
          refine (refRight_any (s.extract 10 s.size) _ (by simp [maxLen]; omega)).mono ?_
          rw [HD.out, HR.out]
          rintro e w' ⟨rfl, rfl⟩
          go_wp2_with fail
          go_ret3
          exact ⟨by rw [HV.out]; rfl, Below.refl _ _⟩
        · have i6 := run_idx (P := Try.prog) (k := .i64) Try.underlying9 s 6 6 rfl (by omega)
          have i7 := run_idx (P := Try.prog) (k := .i64) Try.underlying9 s 7 7 rfl (by omega)
          have i8 := run_idx (P := Try.prog) (k := .i64) Try.underlying9 s 8 8 rfl (by omega)
          obtain ⟨c6, hc6⟩ : ∃ c, c = (L s).getD 6 0 := ⟨_, rfl⟩
          obtain ⟨c7, hc7⟩ : ∃ c, c = (L s).getD 7 0 := ⟨_, rfl⟩
          obtain ⟨c8, hc8⟩ : ∃ c, c = (L s).getD 8 0 := ⟨_, rfl⟩
          rw [← hc6] at i6
          rw [← hc7] at i7
          rw [← hc8] at i8
          have hv : headP (L s) = if octB c6 = true ∧ octB c7 = true ∧ octB c8 = true then some (c6.toNat % 8 * 64 + c7.toNat % 8 * 8 + c8.toNat % 8, (L s).drop 10) else none := by
            rw [headP, ← hc6, ← hc7, ← hc8, ← hc9, h6, hr, h9, hls]
            simp [h11]
          have HV := Lib.hid hv
          have HR := Lib.hid hr
          have HD := Lib.hid hd10
          clear hv hr hd10 h9 hc9 h6 ht6 hls hc6 hc7 hc8
          by_cases o6 : octB c6 = true
          · have b6 : 48 ≤ c6.toNat ∧ c6.toNat ≤ 55 := by simpa [octB] using o6
            obtain ⟨b61, b62⟩ := b6
            by_cases o7 : octB c7 = true
            · have b7 : 48 ≤ c7.toNat ∧ c7.toNat ≤ 55 := by simpa [octB] using o7
              obtain ⟨b71, b72⟩ := b7
              by_cases o8 : octB c8 = true
              · have b8 : 48 ≤ c8.toNat ∧ c8.toNat ≤ 55 := by simpa [octB] using o8
                obtain ⟨b81, b82⟩ := b8
                have hyes : headP (L s) = some (c6.toNat % 8 * 64 + c7.toNat % 8 * 8 + c8.toNat % 8, (L s).drop 10) := by rw [HV.out, if_pos ⟨o6, o7, o8⟩]
                have HY := Lib.hid hyes
                have hS : s.extract 10 s.size = S ((L s).drop 10) := L_inj HD.out
                have HS := Lib.hid hS
                obtain ⟨x6, hx6⟩ : ∃ x : Nat, x = c6.toNat := ⟨_, rfl⟩
                obtain ⟨x7, hx7⟩ : ∃ x : Nat, x = c7.toNat := ⟨_, rfl⟩
                obtain ⟨x8, hx8⟩ : ∃ x : Nat, x = c8.toNat := ⟨_, rfl⟩
                rw [← hx6] at i6 b61 b62 HY
                rw [← hx7] at i7 b71 b72 HY
                rw [← hx8] at i8 b81 b82 HY
                clear hyes hS o6 o7 o8 hx6 hx7 hx8
                go_enter Try.func13, Try.ntmps13
                go_wp2_with fail
                refine (refRight_any (s.extract 10 s.size) _ (by simp [maxLen]; omega)).mono ?_
                rw [HD.out, HR.out]
                rintro e w' ⟨rfl, rfl⟩
                go_wp2_with fail
                refine wp_loop_rounds 4 ?_
                repeat any_goals (rw [rounds_succ]; go_wp2_with fail)
                go_quiet (fail)
                go_wp2_with fail
                go_ret3
                refine ⟨?_, below_drewN (Below.refl _ _) nq⟩
                rw [HY.out, HS.out]
                simp only [headR]
                refine tuple3_int ?_
                omega
              · have b8 := octB_no o8
                rcases b8 with b8 | b8
                all_goals
                  have hno : headP (L s) = none := by rw [HV.out]; simp [o8]
                  have HNO := Lib.hid hno
                  clear hno
                  go_enter Try.func13, Try.ntmps13
                  go_wp2_with fail
                  refine (refRight_any (s.extract 10 s.size) _ (by simp [maxLen]; omega)).mono ?_
                  rw [HD.out, HR.out]
                  rintro e w' ⟨rfl, rfl⟩
                  go_wp2_with fail
                  refine wp_loop_rounds 4 ?_
                  repeat any_goals (rw [rounds_succ]; go_wp2_with fail)
                  go_ret3
                  exact ⟨by rw [HNO.out]; rfl, Below.refl _ _⟩
            · have b7 := octB_no o7
              rcases b7 with b7 | b7
              all_goals
                have hno : headP (L s) = none := by rw [HV.out]; simp [o7]
                have HNO := Lib.hid hno
                clear hno
                go_enter Try.func13, Try.ntmps13
                go_wp2_with fail
                refine (refRight_any (s.extract 10 s.size) _ (by simp [maxLen]; omega)).mono ?_
                rw [HD.out, HR.out]
                rintro e w' ⟨rfl, rfl⟩
                go_wp2_with fail
                refine wp_loop_rounds 4 ?_
                repeat any_goals (rw [rounds_succ]; go_wp2_with fail)
                go_ret3
                exact ⟨by rw [HNO.out]; rfl, Below.refl _ _⟩
          · have b6 := octB_no o6
            rcases b6 with b6 | b6
            all_goals
              have hno : headP (L s) = none := by rw [HV.out]; simp [o6]
              have HNO := Lib.hid hno
              clear hno
              go_enter Try.func13, Try.ntmps13
              go_wp2_with fail
              refine (refRight_any (s.extract 10 s.size) _ (by simp [maxLen]; omega)).mono ?_
              rw [HD.out, HR.out]
              rintro e w' ⟨rfl, rfl⟩
              go_wp2_with fail
              refine wp_loop_rounds 4 ?_
              repeat any_goals (rw [rounds_succ]; go_wp2_with fail)
              go_ret3
              exact ⟨by rw [HNO.out]; rfl, Below.refl _ _⟩
      · have hv : headP (L s) = none := by rw [headP, if_neg (fun h => h9 (hc9.trans h.2.2.1))]
        have t9 : (((c9.toNat : Nat) : Int) == 32) = false := by
          rw [beq_eq_false_iff_ne]; intro h; exact h9 (UInt8.toNat_inj.1 (by have : (32 : UInt8).toNat = 32 := rfl; omega))
        have t9' : (((c9.toNat : Nat) : Int) != 32) = true := by rw [bne, t9]; rfl
        have HV := Lib.hid hv
        clear hv hd10 h9 hc9 h6 ht6 hls
        go_enter Try.func13, Try.ntmps13
        go_wp2_with (go_at_call 30; refine (refRight_any _ _ (by simp [maxLen]; omega)).mono ?_; rintro e w' ⟨rfl, rfl⟩)
        go_ret3
        exact ⟨by rw [HV.out]; rfl, Below.refl _ _⟩
    · have t6 : ((s.extract 0 6).toList == [98, 101, 103, 105, 110, 32]) = false := by rw [toList_L, ht6, beq_eq_false_iff_ne]; exact h6
      have hv : headP (L s) = none := by rw [headP, if_neg (fun h => h6 h.2.1)]
      have HV := Lib.hid hv
      clear hv hd10 h6 ht6 hls
      go_enter Try.func13, Try.ntmps13
      go_wp2_with (go_at_call 30; refine (refRight_any _ _ (by simp [maxLen]; omega)).mono ?_; rintro e w' ⟨rfl, rfl⟩)
      go_ret3
      exact ⟨by rw [HV.out]; rfl, Below.refl _ _⟩
  · have hv : headP (L s) = none := by rw [headP, if_neg (fun h => h11 (hls ▸ h.1))]
    have HV := Lib.hid hv
    clear hv hls
    go_enter Try.func13, Try.ntmps13
    go_wp2_with fail
    go_ret3
    exact ⟨by rw [HV.out]; rfl, Below.refl _ _⟩
end Go.Proofs.Ytjnknckbdfgjlaa
