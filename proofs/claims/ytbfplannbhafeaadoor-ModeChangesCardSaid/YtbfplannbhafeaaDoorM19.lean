/-
  The walk of the statement ModeChanges.
-/
import Derived.Test.YtbfplannbhafeaaDoorM18
import Derived.Test.YtbfplannbhafeaaDoorM8
namespace Go.Proofs.YtbfplannbhafeaaDoor
open Go.RowKit

set_option maxRecDepth 100000 in
set_option maxHeartbeats 1000000 in
theorem changes_any (s : ByteArray) (m : Int) (dir : Bool) (k : Int) (w : World) (hs : s.size ≤ maxLen) (hv : Held w) :
    Calls Tryd.prog 3 #[.string s, .int .i64 m, .bool dir, .int .i64 k] w fun e w' => e = .returned (.bool true) ∧ Below w.heap.size w w' := by
  unfold maxLen at hs
  have w0pos := hv.2
  have HV := Lib.hid hv
  have CA := Lib.hid (anchor_any w hv)
  clear hv
  obtain ⟨rm, hrm⟩ : ∃ b, b = (decide (0 ≤ m) && decide (m ≤ 4095)) := ⟨_, rfl⟩
  obtain ⟨rk, hrk⟩ : ∃ b, b = (decide (0 ≤ k) && decide (k ≤ 4095)) := ⟨_, rfl⟩
  have CR1 := Lib.hid (fun w => right_any m w rm hrm)
  have CR2 := Lib.hid (fun w => right_any k w rk hrk)
  by_cases h2 : s.size ≤ 200
  · cases rm with
    | false =>
      clear hrm hrk
      go_enter Tryd.func3, Tryd.ntmps3
      go_wp2_with fail
      refine CA.out.mono ?_
      rintro e w1 ⟨rfl, hb1⟩
      go_wp2_with fail
      refine (CR1.out _).mono ?_
      rintro e w2 ⟨rfl, rfl⟩
      go_wp2_with fail
      go_ret
      exact ⟨rfl, hb1⟩
    | true =>
      cases rk with
      | false =>
        clear hrm hrk
        go_enter Tryd.func3, Tryd.ntmps3
        go_wp2_with fail
        refine CA.out.mono ?_
        rintro e w1 ⟨rfl, hb1⟩
        go_wp2_with fail
        refine (CR1.out _).mono ?_
        rintro e w2 ⟨rfl, rfl⟩
        go_wp2_with fail
        refine (CR2.out _).mono ?_
        rintro e w2 ⟨rfl, rfl⟩
        go_wp2_with fail
        go_ret
        exact ⟨rfl, hb1⟩
      | true =>
        obtain ⟨m1, rfl⟩ : ∃ n : Nat, m = n := ⟨m.toNat, by simp at hrm; omega⟩
        obtain ⟨k1, rfl⟩ : ∃ n : Nat, k = n := ⟨k.toNat, by simp at hrk; omega⟩
        have hm4 : m1 < 4096 := by simp at hrm; omega
        have hk4 : k1 < 4096 := by simp at hrk; omega
        clear hrm hrk
        obtain ⟨⟨n, er⟩, hR⟩ : ∃ R, R = changeP dir k1 (L s) m1 := ⟨_, rfl⟩
        have C1 := Lib.hid (fun w => change_any s m1 dir k1 w (by omega) hm4 hk4)
        have C2 := Lib.hid (fun w => changeRef_any s m1 dir k1 w (by omega) hm4 hk4)
        rw [← hR] at C1 C2
        simp only [resV] at C1 C2
        clear hm4 hk4 hR
        go_enter Tryd.func3, Tryd.ntmps3
        go_wp2_with fail
        refine CA.out.mono ?_
        rintro e w1 ⟨rfl, hb1⟩
        go_wp2_with fail
        refine (CR1.out _).mono ?_
        rintro e w2 ⟨rfl, rfl⟩
        go_wp2_with fail
        refine (CR2.out _).mono ?_
        rintro e w2 ⟨rfl, rfl⟩
        go_wp2_with fail
        refine (C1.out _ (HV.out.below w0pos hb1)).mono ?_
        rintro e w3 ⟨rfl, hb2⟩
        have hb3 := hb1.trans (hb2.mono hb1.size)
        clear hb1 hb2
        go_wp2_with fail
        refine (C2.out _).mono ?_
        rintro e w4 ⟨rfl, rfl⟩
        go_wp2_with fail
        go_ret
        exact ⟨ret_bool (by simp), hb3⟩
  · have h3 : 200 < s.size := by omega
    clear h2 hrm hrk
    go_enter Tryd.func3, Tryd.ntmps3
    go_wp2_with fail
    refine CA.out.mono ?_
    rintro e w1 ⟨rfl, hb1⟩
    go_wp2_with fail
    go_ret
    exact ⟨rfl, hb1⟩
end Go.Proofs.YtbfplannbhafeaaDoor
