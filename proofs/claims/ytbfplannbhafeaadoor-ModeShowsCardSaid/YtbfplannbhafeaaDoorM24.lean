/-
  The walk of the statement ModeShows.
-/
import Derived.Test.YtbfplannbhafeaaDoorM23
import Derived.Test.YtbfplannbhafeaaDoorM8
namespace Go.Proofs.YtbfplannbhafeaaDoor
open Go.RowKit

set_option maxRecDepth 100000 in
set_option maxHeartbeats 1000000 in
theorem shows_any (m k kd : Int) (hkd : 0 ≤ kd ∧ kd ≤ 255) (w : World) (hv : Held w) :
    Calls Tryd.prog 6 #[.int .i64 m, .int .i64 k, .int .u8 kd] w fun e w' => e = .returned (.bool true) ∧ Below w.heap.size w w' := by
  obtain ⟨kind, rfl⟩ : ∃ c : UInt8, kd = ((c.toNat : Nat) : Int) := ⟨_, u8_of hkd.1 (by omega)⟩
  have CA := Lib.hid (anchor_any w hv)
  clear hv hkd
  obtain ⟨rm, hrm⟩ : ∃ b, b = (decide (0 ≤ m) && decide (m ≤ 4095)) := ⟨_, rfl⟩
  obtain ⟨rk, hrk⟩ : ∃ b, b = (decide (0 ≤ k) && decide (k ≤ 4095)) := ⟨_, rfl⟩
  have CR0 := Lib.hid (fun w => modeRight_any m w rm hrm)
  have CR1 := Lib.hid (fun w => right_any m w rm hrm)
  have CR2 := Lib.hid (fun w => right_any k w rk hrk)
  cases rm with
  | false =>
    clear hrm hrk
    go_enter Tryd.func6, Tryd.ntmps6
    go_wp2_with fail
    refine CA.out.mono ?_
    rintro e w1 ⟨rfl, hb1⟩
    go_wp2_with (first | (go_at_call 13; refine (CR0.out _).mono ?_; rintro e w2 ⟨rfl, rfl⟩) | (go_at_call 8; with_reducible first | (refine (CR1.out _).mono ?_; rintro e w2 ⟨rfl, rfl⟩) | (refine (CR2.out _).mono ?_; rintro e w2 ⟨rfl, rfl⟩)))
    go_ret
    exact ⟨rfl, hb1⟩
  | true =>
    cases rk with
    | false =>
      clear hrm hrk
      go_enter Tryd.func6, Tryd.ntmps6
      go_wp2_with fail
      refine CA.out.mono ?_
      rintro e w1 ⟨rfl, hb1⟩
      go_wp2_with (first | (go_at_call 13; refine (CR0.out _).mono ?_; rintro e w2 ⟨rfl, rfl⟩) | (go_at_call 8; with_reducible first | (refine (CR1.out _).mono ?_; rintro e w2 ⟨rfl, rfl⟩) | (refine (CR2.out _).mono ?_; rintro e w2 ⟨rfl, rfl⟩)))
      go_ret
      exact ⟨rfl, hb1⟩
    | true =>
      obtain ⟨m1, rfl⟩ : ∃ n : Nat, m = n := ⟨m.toNat, by simp at hrm; omega⟩
      obtain ⟨k1, rfl⟩ : ∃ n : Nat, k = n := ⟨k.toNat, by simp at hrk; omega⟩
      have hm4 : m1 < 4096 := by simp at hrm; omega
      have hk4 : k1 < 4096 := by simp at hrk; omega
      clear hrm hrk
      obtain ⟨O, hO⟩ : ∃ O, O = S (octS m1) := ⟨_, rfl⟩
      obtain ⟨T, hT⟩ : ∃ T, T = S (kind :: roundsRef m1 9) := ⟨_, rfl⟩
      obtain ⟨F, hF⟩ : ∃ F, F = andN m1 (k1 &&& 511) := ⟨_, rfl⟩
      have C1 := Lib.hid (fun w => octal4_any m1 w hm4)
      have C2 := Lib.hid (fun w => octalRef_any m1 w hm4)
      have C3 := Lib.hid (fun w => letters_any kind m1 w hm4)
      have C4 := Lib.hid (fun w => lettersRef_any kind m1 w hm4)
      have C5 := Lib.hid (fun w => fresh_any m1 k1 w hm4 hk4)
      have C6 := Lib.hid (fun w => freshRef_any m1 k1 w hm4 hk4)
      rw [letters_law] at C3
      rw [← hO] at C1 C2
      rw [← hT] at C3 C4
      rw [← hF] at C5 C6
      clear hm4 hk4 hO hT hF
      go_enter Tryd.func6, Tryd.ntmps6
      go_wp2_with fail
      refine CA.out.mono ?_
      rintro e w1 ⟨rfl, hb1⟩
      go_wp2_with (first | (go_at_call 13; refine (CR0.out _).mono ?_; rintro e w2 ⟨rfl, rfl⟩) | (go_at_call 8; with_reducible first | (refine (CR1.out _).mono ?_; rintro e w2 ⟨rfl, rfl⟩) | (refine (CR2.out _).mono ?_; rintro e w2 ⟨rfl, rfl⟩)))
      refine (C1.out _).mono ?_
      rintro e w3 ⟨rfl, hb2⟩
      have hb3 := hb1.trans (hb2.mono hb1.size)
      clear hb1 hb2
      go_wp2_with fail
      refine (C2.out _).mono ?_
      rintro e w4 ⟨rfl, hb4⟩
      have hb5 := hb3.trans (hb4.mono hb3.size)
      clear hb3 hb4
      go_wp2_with fail
      refine (C3.out _).mono ?_
      rintro e w5 ⟨rfl, hb6⟩
      have hb7 := hb5.trans (hb6.mono hb5.size)
      clear hb5 hb6
      go_wp2_with fail
      refine (C4.out _).mono ?_
      rintro e w6 ⟨rfl, hb8⟩
      have hb9 := hb7.trans (hb8.mono hb7.size)
      clear hb7 hb8
      go_wp2_with (first | (go_at_call 17; refine (C5.out _).mono ?_; rintro e w7 ⟨rfl, rfl⟩) | (go_at_call 18; refine (C6.out _).mono ?_; rintro e w7 ⟨rfl, rfl⟩))
      go_ret
      exact ⟨ret_bool (by simp), hb9⟩
end Go.Proofs.YtbfplannbhafeaaDoor
