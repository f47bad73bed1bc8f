/-
  The walk of the statement UuEncodes.
-/
import Derived.Test.YtjnknckbdfgjlaaU12
import Derived.Test.YtjnknckbdfgjlaaU8
namespace Go.Proofs.Ytjnknckbdfgjlaa
open Go.RowKit

set_option maxHeartbeats 1000000 in
theorem encodes_any (m0 : Int) (name s : ByteArray) (w : World) (hs : s.size ≤ maxLen) (hns : name.size ≤ maxLen) (hv : Held w) :
    Calls Try.prog 7 #[.int .i64 m0, .string name, .string s] w fun e w' => e = .returned (.bool true) ∧ Below w.heap.size w w' := by
  have HV := Lib.hid hv
  have HNS := Lib.hid hns
  have w0pos := hv.2
  unfold maxLen at hs hns
  clear hv
  by_cases h1 : s.size ≤ 3000
  · by_cases h2 : name.size ≤ 5000
    · skip
      cases hm : (decide (0 ≤ m0) && decide (m0 ≤ 4095))
      · have hev : encV m0 (L name) (L s) = .tuple #[.string ⟨#[]⟩, .int .i64 10] := by rw [encV, if_pos hm]
        have HM := Lib.hid hm
        have HEV := Lib.hid hev
        clear hm hev
        go_enter Try.func7, Try.ntmps7
        go_wp2_with fail
        refine (anchor_any _).mono ?_
        rintro e w1 ⟨rfl, hb1⟩
        go_wp2_with fail
        refine (encode_range m0 name s _ HM.out).mono ?_
        rintro e w2 ⟨rfl, rfl⟩
        go_wp2_with fail
        refine (refEncode_any m0 name s _ h1 HNS.out).mono ?_
        rw [HEV.out]
        rintro e w3 ⟨rfl, hb3⟩
        go_wp2_with fail
        go_ret
        exact ⟨rfl, hb1.trans (hb3.mono hb1.size)⟩
      · have hmc : 0 ≤ m0 ∧ m0 ≤ 4095 := by simpa using hm
        obtain ⟨hm1, hm2⟩ := hmc
        obtain ⟨m, rfl⟩ := Int.eq_ofNat_of_zero_le hm1
        have hm3 : m ≤ 4095 := by omega
        cases hn : nameB (L name)
        · have hev : encV m (L name) (L s) = .tuple #[.string ⟨#[]⟩, .int .i64 11] := by rw [encV, if_neg (by rw [hm]; simp), if_pos hn]
          have HN := Lib.hid hn
          have HEV := Lib.hid hev
          clear hm hn hev
          go_enter Try.func7, Try.ntmps7
          go_wp2_with fail
          refine (anchor_any _).mono ?_
          rintro e w1 ⟨rfl, hb1⟩
          go_wp2_with fail
          refine (encode_form m name s _ hm3 HN.out HNS.out).mono ?_
          rintro e w2 ⟨rfl, rfl⟩
          go_wp2_with fail
          refine (refEncode_any m name s _ h1 HNS.out).mono ?_
          rw [HEV.out]
          rintro e w3 ⟨rfl, hb3⟩
          go_wp2_with fail
          go_ret
          exact ⟨rfl, hb1.trans (hb3.mono hb1.size)⟩
        · obtain ⟨t, ht⟩ : ∃ t, t = S (headL m (L name) ++ restL (L s)) := ⟨_, rfl⟩
          obtain ⟨r, hr⟩ : ∃ r, r = S (restL (L s)) := ⟨_, rfl⟩
          have h3 := restL_length (L s).length (L s) (Nat.le_refl _)
          have h4 := restL_len (L s).length (L s) (Nat.le_refl _)
          have h5 : (L s).length = s.size := rfl
          have hrs : r.size = encLen s.size := by rw [hr, S_size, h3, h5]
          have htl : t.size ≤ 30000 := by
            have h6 : (headL m (L name)).length = name.size + 11 := by
              have : (L name).length = name.size := rfl
              simp [headL, octL]; omega
            rw [ht, S_size, List.length_append]; omega
          have hev : encV m (L name) (L s) = .tuple #[.string t, .int .i64 0] := by rw [encV, if_neg (by rw [hm]; simp), if_neg (by rw [hn]; simp), ht]; rfl
          have hdp : decodeP (L t) = some (m % 512, L name, L s) := by rw [ht, L_S, decodeP_encode m _ _ hn]
          have htest : (((m % 512 : Nat) : Int) == (m : Int) % 512) = true := by simp
          have hrl : r.size ≤ 30000 := by rw [hr, S_size]; omega
          have hlen : ((encLen s.size : Nat) : Int) = (r.size : Int) := by rw [hrs]
          have HLEN := Lib.hid hlen
          have HN := Lib.hid hn
          have HEV := Lib.hid hev
          have HDP := Lib.hid hdp
          have HT := Lib.hid ht
          have HR := Lib.hid hr
          clear hm hn hev hdp ht hr h3 h4 h5 hrs hlen
          go_enter Try.func7, Try.ntmps7
          go_wp2_with fail
          refine (anchor_any _).mono ?_
          rintro e w1 ⟨rfl, hb1⟩
          go_wp2_with fail
          refine (encode_any m name s _ hm3 HN.out h1).mono ?_
          rw [← HT.out]
          rintro e w2 ⟨rfl, hb2⟩
          have hb3 := hb1.trans (hb2.mono hb1.size)
          clear hb1 hb2
          go_wp2_with fail
          refine (refEncode_any m name s _ h1 HNS.out).mono ?_
          rw [HEV.out]
          rintro e w3 ⟨rfl, hb4⟩
          have hb5 := hb3.trans (hb4.mono hb3.size)
          clear hb3 hb4
          go_wp2_with fail
          refine (decode_any t _ (by omega) (HV.out.below w0pos hb5)).mono ?_
          rw [HDP.out]
          simp only [decV, S_L]
          rintro e w4 ⟨rfl, hb6⟩
          have hb7 := hb5.trans (hb6.mono hb5.size)
          clear hb5 hb6
          go_wp2_with fail
          refine (encoded_any s.size _ (by omega)).mono ?_
          rw [HLEN.out]
          rintro e w5 ⟨rfl, rfl⟩
          go_wp2_with fail
          refine (refRest_any s _ h1).mono ?_
          rw [← HR.out]
          rintro e w6 ⟨rfl, hb8⟩
          go_wp2_with fail
          go_ret
          exact ⟨ret_bool (by simp), hb7.trans (hb8.mono hb7.size)⟩
    · go_enter Try.func7, Try.ntmps7
      go_wp2_with fail
      refine (anchor_any _).mono ?_
      rintro e w1 ⟨rfl, hb1⟩
      go_wp2_with fail
      go_ret
      exact ⟨rfl, hb1⟩
  · go_enter Try.func7, Try.ntmps7
    go_wp2_with fail
    refine (anchor_any _).mono ?_
    rintro e w1 ⟨rfl, hb1⟩
    go_wp2_with fail
    go_ret
    exact ⟨rfl, hb1⟩
end Go.Proofs.Ytjnknckbdfgjlaa
