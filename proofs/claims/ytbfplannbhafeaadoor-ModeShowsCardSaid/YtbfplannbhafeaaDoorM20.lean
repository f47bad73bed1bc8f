/-
  Right; the document's Fresh and Octal.
-/
import Derived.Test.YtbfplannbhafeaaDoorM15
import Derived.Test.YtbfplannbhafeaaDoorM9
namespace Go.Proofs.YtbfplannbhafeaaDoor
open Go.RowKit

theorem modeRight_any (m : Int) (w : World) (b : Bool) (hb : b = (decide (0 ≤ m) && decide (m ≤ 4095))) :
    Calls Tryd.prog 13 #[.int .i64 m] w fun e w' => e = .returned (.bool b) ∧ w = w' := by
  subst hb
  by_cases h0 : 0 ≤ m
  all_goals
    go_enter Tryd.func13, Tryd.ntmps13
    go_wp2_with fail
    go_ret
    exact ⟨ret_bool (by simp [h0]; try omega), rfl⟩

set_option maxRecDepth 100000 in
theorem octalRef_any (m : Nat) (w : World) (hm : m < 4096) :
    Calls Tryd.prog 14 #[.int .i64 m] w fun e w' => e = .returned (.string (S (octS m))) ∧ Below w.heap.size w w' := by
  go_enter Tryd.func14, Tryd.ntmps14
  go_wp2_with fail
  go_ret
  exact ⟨ret_string (by
    unfold octS S
    have e : m / 512 % 8 = m / 512 := by omega
    rw [e]), Below.alloc (Below.refl _ _) (Nat.le_refl _) _⟩

theorem freshRef_any (m k : Nat) (w : World) (hm : m < 4096) (hk : k < 4096) :
    Calls Tryd.prog 18 #[.int .i64 m, .int .i64 k] w fun e w' => e = .returned (.int .i64 ((andN m (k &&& 511) : Nat))) ∧ w' = w := by
  obtain ⟨D, hD⟩ : ∃ D, D = andN m (k &&& 511) := ⟨_, rfl⟩
  rw [← hD]
  have hD4 : D < 4096 := by rw [hD]; exact andN_le _ _ hm
  have hbit : ∀ b, b < 12 → D.testBit b = if b < 9 ∧ k.testBit b = true then false else m.testBit b := fun b hb => by
    have h511 : ∀ b : Fin 12, (511 : Nat).testBit b.val = decide (b.val < 9) := by decide
    rw [hD, andN_bit, Nat.testBit_and, h511 ⟨b, hb⟩]
    by_cases h9 : b < 9 <;> cases k.testBit b <;> simp [h9]
  have HB := Lib.hid hbit
  have HD4 := Lib.hid hD4
  have HU0 : Hid (Upto D m 0 m) := Lib.hid ⟨hm, fun j _ => by rw [if_neg (by omega)]⟩
  clear hD hbit hD4 hm
  go_enter Tryd.func18, Tryd.ntmps18
  go_wp2_with fail
  go_loop [0, 5] (fun o i => ∃ b n : Nat, b ≤ 9 ∧ i = .int .i64 b ∧ o = .int .i64 n ∧ Upto D m b n) (fun _ i => 9 - (intOf i).toNat)
  case atStart => exact ⟨0, m, by omega, rfl, rfl, HU0.out⟩
  case round =>
    obtain ⟨b, n, hb, rfl, rfl, hu⟩ := hrel
    have HU := Lib.hid hu
    clear hu
    by_cases hlt : b < 9
    · obtain ⟨mk, hmk⟩ : ∃ x, k.testBit b = x := ⟨_, rfl⟩
      have hDb := HB.out b (by omega)
      rw [hmk] at hDb
      have CH := Lib.hid (fun w => has_any k b w hk (by omega) mk hmk)
      have CF := Lib.hid (fun w => put_any n b false w HU.out.1 (by omega))
      cases mk with
      | true =>
        have HST := Lib.hid (HU.out.put (show b < 12 by omega) false (by rw [hDb, if_pos ⟨hlt, rfl⟩]))
        clear hmk hDb
        go_wp2_with (first | (go_at_call 25; refine (CH.out _).mono ?_; rintro e w' ⟨rfl, rfl⟩) | (go_at_call 26; refine (CF.out _).mono ?_; rintro e w' ⟨rfl, rfl⟩))
        go_round
        case rel => exact ⟨b + 1, _, by omega, by go_num, rfl, HST.out⟩
        case measure => simp [intOf]; omega
      | false =>
        have HST := Lib.hid (HU.out.keep (by rw [hDb, if_neg (by simp)]))
        clear hmk hDb
        go_wp2_with (first | (go_at_call 25; refine (CH.out _).mono ?_; rintro e w' ⟨rfl, rfl⟩) | (go_at_call 26; refine (CF.out _).mono ?_; rintro e w' ⟨rfl, rfl⟩))
        go_round
        case rel => exact ⟨b + 1, _, by omega, by go_num, rfl, HST.out⟩
        case measure => simp [intOf]; omega
    · obtain rfl : b = 9 := by omega
      have HF : Hid (n = D) := Lib.hid (by
        refine Upto.all (D := D) (m := m) ⟨HU.out.1, fun j hj => ?_⟩ HD4.out
        rw [HU.out.2 j hj, if_pos hj]
        by_cases h : j < 9
        · rw [if_pos h]
        · rw [if_neg h, HB.out j hj, if_neg (by omega)])
      go_wp2_with fail
      go_ret
      exact ⟨ret_int (by rw [HF.out]), rfl⟩
end Go.Proofs.YtbfplannbhafeaaDoor
