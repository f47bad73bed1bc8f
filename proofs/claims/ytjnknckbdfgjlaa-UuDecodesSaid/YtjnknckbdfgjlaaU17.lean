/-
  The walk of the statement UuDecodes.
-/
import Derived.Test.YtjnknckbdfgjlaaU16
import Derived.Test.YtjnknckbdfgjlaaU8
namespace Go.Proofs.Ytjnknckbdfgjlaa
open Go.RowKit

set_option maxHeartbeats 1000000 in
theorem decodes_any (s l : ByteArray) (w : World) (hs : s.size ≤ maxLen) (hl : l.size ≤ maxLen) (hv : Held w) :
    Calls Try.prog 5 #[.string s, .string l] w fun e w' => e = .returned (.bool true) ∧ Below w.heap.size w w' := by
  have HV := Lib.hid hv
  have w0pos := hv.2
  unfold maxLen at hs hl
  clear hv
  by_cases h1 : s.size ≤ 3000
  · by_cases h2 : l.size ≤ 5000
    · obtain ⟨P, hP⟩ : ∃ P, decodeP (L s) = P := ⟨_, rfl⟩
      obtain ⟨H, hH⟩ : ∃ H, headP (L l) = H := ⟨_, rfl⟩
      have HP := Lib.hid hP
      have HH := Lib.hid hH
      clear hP hH
      cases P with
      | none =>
        cases H with
        | none =>
          go_enter Try.func5, Try.ntmps5
          go_wp2_with fail
          refine (anchor_any _).mono ?_
          rintro e w1 ⟨rfl, hb1⟩
          go_wp2_with fail
          refine (decode_any s _ (by omega) (HV.out.below w0pos hb1)).mono ?_
          rw [HP.out]
          simp only [decV]
          rintro e w2 ⟨rfl, hb2⟩
          have hb3 := hb1.trans (hb2.mono hb1.size)
          clear hb1 hb2
          go_wp2_with fail
          refine (refDecode_any s _ (by omega)).mono ?_
          rw [HP.out]
          simp only [decR]
          rintro e w4 ⟨rfl, hb4⟩
          have hb5 := hb3.trans (hb4.mono hb3.size)
          clear hb3 hb4
          go_wp2_with fail
          refine (head_any l _ (by omega) (HV.out.below w0pos hb5)).mono ?_
          rw [HH.out]
          simp only [headV]
          rintro e w6 ⟨rfl, hb6⟩
          have hb7 := hb5.trans (hb6.mono hb5.size)
          clear hb5 hb6
          go_wp2_with fail
          refine (refHead_any l _ (by omega)).mono ?_
          rw [HH.out]
          simp only [headR]
          rintro e w8 ⟨rfl, hb8⟩
          have hb9 := hb7.trans (hb8.mono hb7.size)
          clear hb7 hb8
          go_wp2_with fail
          go_ret
          exact ⟨ret_bool (by simp), hb9⟩
        | some r =>
          obtain ⟨m, n⟩ := r
          go_enter Try.func5, Try.ntmps5
          go_wp2_with fail
          refine (anchor_any _).mono ?_
          rintro e w1 ⟨rfl, hb1⟩
          go_wp2_with fail
          refine (decode_any s _ (by omega) (HV.out.below w0pos hb1)).mono ?_
          rw [HP.out]
          simp only [decV]
          rintro e w2 ⟨rfl, hb2⟩
          have hb3 := hb1.trans (hb2.mono hb1.size)
          clear hb1 hb2
          go_wp2_with fail
          refine (refDecode_any s _ (by omega)).mono ?_
          rw [HP.out]
          simp only [decR]
          rintro e w4 ⟨rfl, hb4⟩
          have hb5 := hb3.trans (hb4.mono hb3.size)
          clear hb3 hb4
          go_wp2_with fail
          refine (head_any l _ (by omega) (HV.out.below w0pos hb5)).mono ?_
          rw [HH.out]
          simp only [headV]
          rintro e w6 ⟨rfl, hb6⟩
          have hb7 := hb5.trans (hb6.mono hb5.size)
          clear hb5 hb6
          go_wp2_with fail
          refine (refHead_any l _ (by omega)).mono ?_
          rw [HH.out]
          simp only [headR]
          rintro e w8 ⟨rfl, hb8⟩
          have hb9 := hb7.trans (hb8.mono hb7.size)
          clear hb7 hb8
          go_wp2_with fail
          go_ret
          exact ⟨ret_bool (by simp), hb9⟩
      | some q =>
        obtain ⟨a, b, c⟩ := q
        cases H with
        | none =>
          go_enter Try.func5, Try.ntmps5
          go_wp2_with fail
          refine (anchor_any _).mono ?_
          rintro e w1 ⟨rfl, hb1⟩
          go_wp2_with fail
          refine (decode_any s _ (by omega) (HV.out.below w0pos hb1)).mono ?_
          rw [HP.out]
          simp only [decV]
          rintro e w2 ⟨rfl, hb2⟩
          have hb3 := hb1.trans (hb2.mono hb1.size)
          clear hb1 hb2
          go_wp2_with fail
          refine (refDecode_any s _ (by omega)).mono ?_
          rw [HP.out]
          simp only [decR]
          rintro e w4 ⟨rfl, hb4⟩
          have hb5 := hb3.trans (hb4.mono hb3.size)
          clear hb3 hb4
          go_wp2_with fail
          refine (head_any l _ (by omega) (HV.out.below w0pos hb5)).mono ?_
          rw [HH.out]
          simp only [headV]
          rintro e w6 ⟨rfl, hb6⟩
          have hb7 := hb5.trans (hb6.mono hb5.size)
          clear hb5 hb6
          go_wp2_with fail
          refine (refHead_any l _ (by omega)).mono ?_
          rw [HH.out]
          simp only [headR]
          rintro e w8 ⟨rfl, hb8⟩
          have hb9 := hb7.trans (hb8.mono hb7.size)
          clear hb7 hb8
          go_wp2_with fail
          go_ret
          exact ⟨ret_bool (by simp), hb9⟩
        | some r =>
          obtain ⟨m, n⟩ := r
          go_enter Try.func5, Try.ntmps5
          go_wp2_with fail
          refine (anchor_any _).mono ?_
          rintro e w1 ⟨rfl, hb1⟩
          go_wp2_with fail
          refine (decode_any s _ (by omega) (HV.out.below w0pos hb1)).mono ?_
          rw [HP.out]
          simp only [decV]
          rintro e w2 ⟨rfl, hb2⟩
          have hb3 := hb1.trans (hb2.mono hb1.size)
          clear hb1 hb2
          go_wp2_with fail
          refine (refDecode_any s _ (by omega)).mono ?_
          rw [HP.out]
          simp only [decR]
          rintro e w4 ⟨rfl, hb4⟩
          have hb5 := hb3.trans (hb4.mono hb3.size)
          clear hb3 hb4
          go_wp2_with fail
          refine (head_any l _ (by omega) (HV.out.below w0pos hb5)).mono ?_
          rw [HH.out]
          simp only [headV]
          rintro e w6 ⟨rfl, hb6⟩
          have hb7 := hb5.trans (hb6.mono hb5.size)
          clear hb5 hb6
          go_wp2_with fail
          refine (refHead_any l _ (by omega)).mono ?_
          rw [HH.out]
          simp only [headR]
          rintro e w8 ⟨rfl, hb8⟩
          have hb9 := hb7.trans (hb8.mono hb7.size)
          clear hb7 hb8
          go_wp2_with fail
          go_ret
          exact ⟨ret_bool (by simp), hb9⟩
    · skip
      go_enter Try.func5, Try.ntmps5
      go_wp2_with fail
      refine (anchor_any _).mono ?_
      rintro e w1 ⟨rfl, hb1⟩
      go_wp2_with fail
      go_ret
      exact ⟨rfl, hb1⟩
  · skip
    go_enter Try.func5, Try.ntmps5
    go_wp2_with fail
    refine (anchor_any _).mono ?_
    rintro e w1 ⟨rfl, hb1⟩
    go_wp2_with fail
    go_ret
    exact ⟨rfl, hb1⟩
end Go.Proofs.Ytjnknckbdfgjlaa
