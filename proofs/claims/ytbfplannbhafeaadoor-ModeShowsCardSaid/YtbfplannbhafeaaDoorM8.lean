/-
  The walk of the statement ModeTwice.
-/
import Derived.Test.YtbfplannbhafeaaDoorM7
namespace Go.Proofs.YtbfplannbhafeaaDoor
open Go.RowKit

theorem only_who {s : List UInt8} (h : onlyB s [117, 103, 111, 97] = true) : ∀ x ∈ s, isWho x = true := fun x hx => by
  rw [← isWho_eq]; exact List.all_eq_true.1 h x hx
theorem only_low {s : List UInt8} (h : onlyB s [114, 119, 120, 115, 116] = true) : ∀ x ∈ s, isLow x = true := fun x hx => by
  have := List.all_eq_true.1 h x hx
  simpa [isLow, or_assoc] using this

set_option maxRecDepth 100000 in
set_option maxHeartbeats 4000000 in
theorem twice_any (who : ByteArray) (sg : Int) (lets : ByteArray) (m k : Int) (w : World) (hw0 : who.size ≤ maxLen) (hl0 : lets.size ≤ maxLen) (hv : Held w) :
    Calls Tryd.prog 4 #[.string who, .int .i64 sg, .string lets, .int .i64 m, .int .i64 k] w fun e w' => e = .returned (.bool true) ∧ Below w.heap.size w w' := by
  unfold maxLen at hw0 hl0
  have w0pos := hv.2
  have HV := Lib.hid hv
  have CA := Lib.hid (anchor_any w hv)
  clear hv
  obtain ⟨rm, hrm⟩ : ∃ b, b = (decide (0 ≤ m) && decide (m ≤ 4095)) := ⟨_, rfl⟩
  obtain ⟨rk, hrk⟩ : ∃ b, b = (decide (0 ≤ k) && decide (k ≤ 4095)) := ⟨_, rfl⟩
  have CR1 := Lib.hid (fun w => right_any m w rm hrm)
  have CR2 := Lib.hid (fun w => right_any k w rk hrk)
  cases rm with
  | false =>
    clear hrm hrk
    go_enter Tryd.func4, Tryd.ntmps4
    go_wp2_with fail
    refine CA.out.mono ?_
    rintro e w1 ⟨rfl, hb1⟩
    go_wp2_with fail
    refine (CR1.out _).mono ?_
    rintro e w2 ⟨rfl, rfl⟩
    go_wp2_with fail
    go_ret
    exact ⟨rfl, hb1⟩
  | true =>
    cases rk with
    | false =>
      clear hrm hrk
      go_enter Tryd.func4, Tryd.ntmps4
      go_wp2_with fail
      refine CA.out.mono ?_
      rintro e w1 ⟨rfl, hb1⟩
      go_wp2_with fail
      refine (CR1.out _).mono ?_
      rintro e w2 ⟨rfl, rfl⟩
      go_wp2_with fail
      refine (CR2.out _).mono ?_
      rintro e w2 ⟨rfl, rfl⟩
      go_wp2_with fail
      go_ret
      exact ⟨rfl, hb1⟩
    | true =>
      obtain ⟨m1, rfl⟩ : ∃ n : Nat, m = n := ⟨m.toNat, by simp at hrm; omega⟩
      obtain ⟨k1, rfl⟩ : ∃ n : Nat, k = n := ⟨k.toNat, by simp at hrk; omega⟩
      have hm4 : m1 < 4096 := by simp at hrm; omega
      have hk4 : k1 < 4096 := by simp at hrk; omega
      clear hrm hrk
      by_cases h3 : who.size ≤ 3
      · by_cases h5 : lets.size ≤ 5
        · obtain ⟨o1, ho1⟩ : ∃ b, b = onlyB (L who) [117, 103, 111, 97] := ⟨_, rfl⟩
          obtain ⟨o2, ho2⟩ : ∃ b, b = onlyB (L lets) [114, 119, 120, 115, 116] := ⟨_, rfl⟩
          have CO1 := Lib.hid (fun w => only_any who ⟨#[117, 103, 111, 97]⟩ w (by omega) (by decide))
          have CO2 := Lib.hid (fun w => only_any lets ⟨#[114, 119, 120, 115, 116]⟩ w (by omega) (by decide))
          rw [show onlyB (L who) (L ⟨#[117, 103, 111, 97]⟩) = o1 from ho1.symm] at CO1
          rw [show onlyB (L lets) (L ⟨#[114, 119, 120, 115, 116]⟩) = o2 from ho2.symm] at CO2
          cases o1 with
          | false =>
            clear ho1 ho2 hm4 hk4
            go_enter Tryd.func4, Tryd.ntmps4
            go_wp2_with fail
            refine CA.out.mono ?_
            rintro e w1 ⟨rfl, hb1⟩
            go_wp2_with fail
            refine (CR1.out _).mono ?_
            rintro e w2 ⟨rfl, rfl⟩
            go_wp2_with fail
            refine (CR2.out _).mono ?_
            rintro e w2 ⟨rfl, rfl⟩
            go_wp2_with fail
            refine (CO1.out _).mono ?_
            rintro e w3 ⟨rfl, hb2⟩
            have hb3 := hb1.trans (hb2.mono hb1.size)
            clear hb1 hb2
            go_wp2_with fail
            go_ret
            exact ⟨rfl, hb3⟩
          | true =>
            cases o2 with
            | false =>
              clear ho1 ho2 hm4 hk4
              go_enter Tryd.func4, Tryd.ntmps4
              go_wp2_with fail
              refine CA.out.mono ?_
              rintro e w1 ⟨rfl, hb1⟩
              go_wp2_with fail
              refine (CR1.out _).mono ?_
              rintro e w2 ⟨rfl, rfl⟩
              go_wp2_with fail
              refine (CR2.out _).mono ?_
              rintro e w2 ⟨rfl, rfl⟩
              go_wp2_with fail
              refine (CO1.out _).mono ?_
              rintro e w3 ⟨rfl, hb2⟩
              have hb3 := hb1.trans (hb2.mono hb1.size)
              clear hb1 hb2
              go_wp2_with fail
              refine (CO2.out _).mono ?_
              rintro e w4 ⟨rfl, hb4⟩
              have hb5 := hb3.trans (hb4.mono hb3.size)
              clear hb3 hb4
              go_wp2_with fail
              go_ret
              exact ⟨rfl, hb5⟩
            | true =>
              by_cases hsg : 0 ≤ sg ∧ sg ≤ 2
              · have hwho := only_who ho1.symm
                have hlow := only_low ho2.symm
                obtain ⟨S1, hS1⟩ : ∃ x, x = oneS (L who) k1 (L lets) := ⟨_, rfl⟩
                obtain ⟨G1, hG1⟩ : ∃ x, x = oneG (L who) k1 := ⟨_, rfl⟩
                have hS4 : S1 < 4096 := by rw [hS1]; exact masked_lt _ _ _ (letsN_lt _ _ _ _ (by omega))
                have CH1 : ∀ (sn : UInt8), isSign sn = true → ∀ (t : ByteArray) (n : Nat) (w : World), n < 4096 → Held w → L t = L who ++ sn :: L lets → Calls Tryd.prog 9 #[.string t, .int .i64 (n : Nat), .bool false, .int .i64 (k1 : Nat)] w fun e w' => e = .returned (.tuple #[.int .i64 (doSign sn n S1 G1 : Nat), .int .i64 0]) ∧ Below w.heap.size w w' := fun sn hsn t n w hn hv ht => by
                  have hts : t.size ≤ 100000 := by rw [← L_size, ht]; simp [L_size]; omega
                  have := change_any t n false k1 w hts hn hk4 hv
                  rw [ht, one_change k1 _ _ sn n hwho hlow hsn, ← hS1, ← hG1] at this
                  exact this
                have CH2 : ∀ (t : ByteArray) (n : Nat) (w : World), n < 4096 → Held w → L t = L who ++ 43 :: L lets ++ 44 :: (L who ++ 45 :: L lets) → Calls Tryd.prog 9 #[.string t, .int .i64 (n : Nat), .bool false, .int .i64 (k1 : Nat)] w fun e w' => e = .returned (.tuple #[.int .i64 (andN n S1 : Nat), .int .i64 0]) ∧ Below w.heap.size w w' := fun t n w hn hv ht => by
                  have hts : t.size ≤ 100000 := by rw [← L_size, ht]; simp [L_size]; omega
                  have := change_any t n false k1 w hts hn hk4 hv
                  rw [ht, two_change k1 _ _ n hwho hlow, ← hS1] at this
                  exact this
                have HCH1 := Lib.hid CH1
                have HCH2 := Lib.hid CH2
                have HM4 := Lib.hid hm4
                have hDT := fun sn => doSign_twice sn m1 S1 G1
                have HDT := Lib.hid hDT
                have hDL := fun sn => doSign_lt sn m1 S1 G1 hm4 hS4
                have HDL := Lib.hid hDL
                have HD45 : Hid (doSign 45 m1 S1 G1 = andN m1 S1) := Lib.hid rfl
                obtain ⟨g1, g2⟩ := hsg
                clear hwho hlow hS1 hG1 CH1 CH2 hDT hDL ho1 ho2 hm4 hk4 hS4
                rcases (by omega : sg = 0 ∨ sg = 1 ∨ sg = 2) with rfl | rfl | rfl
                · skip
                  clear g1 g2
                  go_enter Tryd.func4, Tryd.ntmps4
                  go_wp2_with fail
                  refine CA.out.mono ?_
                  rintro e w1 ⟨rfl, hb1⟩
                  go_wp2_with fail
                  refine (CR1.out _).mono ?_
                  rintro e w2 ⟨rfl, rfl⟩
                  go_wp2_with fail
                  refine (CR2.out _).mono ?_
                  rintro e w2 ⟨rfl, rfl⟩
                  go_wp2_with fail
                  refine (CO1.out _).mono ?_
                  rintro e w3 ⟨rfl, hb2⟩
                  have hb3 := hb1.trans (hb2.mono hb1.size)
                  clear hb1 hb2
                  go_wp2_with fail
                  refine (CO2.out _).mono ?_
                  rintro e w4 ⟨rfl, hb4⟩
                  have hb5 := hb3.trans (hb4.mono hb3.size)
                  clear hb3 hb4
                  go_wp2_with fail
                  refine (HCH1.out 43 (by decide) _ m1 _ HM4.out (HV.out.below w0pos hb5) (by rw [L_append, L_append]; simp [L])).mono ?_
                  rintro e w5 ⟨rfl, hb6⟩
                  have hb7 := hb5.trans (hb6.mono hb5.size)
                  clear hb5 hb6
                  go_wp2_with fail
                  refine (HCH1.out 43 (by decide) _ (doSign 43 m1 S1 G1) _ (HDL.out _) (HV.out.below w0pos hb7) (by rw [L_append, L_append]; simp [L])).mono ?_
                  rw [HDT.out]
                  rintro e w6 ⟨rfl, hb8⟩
                  have hb9 := hb7.trans (hb8.mono hb7.size)
                  clear hb7 hb8
                  go_wp2_with fail
                  refine (HCH2.out _ m1 _ HM4.out (HV.out.below w0pos hb9) (by simp [L])).mono ?_
                  rintro e w7 ⟨rfl, hb10⟩
                  have hb11 := hb9.trans (hb10.mono hb9.size)
                  clear hb9 hb10
                  go_wp2_with fail
                  refine (HCH1.out 45 (by decide) _ m1 _ HM4.out (HV.out.below w0pos hb11) (by rw [L_append, L_append]; simp [L])).mono ?_
                  rw [HD45.out]
                  rintro e w8 ⟨rfl, hb12⟩
                  have hb13 := hb11.trans (hb12.mono hb11.size)
                  clear hb11 hb12
                  go_wp2_with fail
                  go_ret
                  exact ⟨ret_bool (by simp), hb13⟩
                · skip
                  clear g1 g2
                  go_enter Tryd.func4, Tryd.ntmps4
                  go_wp2_with fail
                  refine CA.out.mono ?_
                  rintro e w1 ⟨rfl, hb1⟩
                  go_wp2_with fail
                  refine (CR1.out _).mono ?_
                  rintro e w2 ⟨rfl, rfl⟩
                  go_wp2_with fail
                  refine (CR2.out _).mono ?_
                  rintro e w2 ⟨rfl, rfl⟩
                  go_wp2_with fail
                  refine (CO1.out _).mono ?_
                  rintro e w3 ⟨rfl, hb2⟩
                  have hb3 := hb1.trans (hb2.mono hb1.size)
                  clear hb1 hb2
                  go_wp2_with fail
                  refine (CO2.out _).mono ?_
                  rintro e w4 ⟨rfl, hb4⟩
                  have hb5 := hb3.trans (hb4.mono hb3.size)
                  clear hb3 hb4
                  go_wp2_with fail
                  refine (HCH1.out 45 (by decide) _ m1 _ HM4.out (HV.out.below w0pos hb5) (by rw [L_append, L_append]; simp [L])).mono ?_
                  rintro e w5 ⟨rfl, hb6⟩
                  have hb7 := hb5.trans (hb6.mono hb5.size)
                  clear hb5 hb6
                  go_wp2_with fail
                  refine (HCH1.out 45 (by decide) _ (doSign 45 m1 S1 G1) _ (HDL.out _) (HV.out.below w0pos hb7) (by rw [L_append, L_append]; simp [L])).mono ?_
                  rw [HDT.out]
                  rintro e w6 ⟨rfl, hb8⟩
                  have hb9 := hb7.trans (hb8.mono hb7.size)
                  clear hb7 hb8
                  go_wp2_with fail
                  refine (HCH2.out _ m1 _ HM4.out (HV.out.below w0pos hb9) (by simp [L])).mono ?_
                  rintro e w7 ⟨rfl, hb10⟩
                  have hb11 := hb9.trans (hb10.mono hb9.size)
                  clear hb9 hb10
                  go_wp2_with fail
                  refine (HCH1.out 45 (by decide) _ m1 _ HM4.out (HV.out.below w0pos hb11) (by rw [L_append, L_append]; simp [L])).mono ?_
                  rw [HD45.out]
                  rintro e w8 ⟨rfl, hb12⟩
                  have hb13 := hb11.trans (hb12.mono hb11.size)
                  clear hb11 hb12
                  go_wp2_with fail
                  go_ret
                  exact ⟨ret_bool (by simp), hb13⟩
                · skip
                  clear g1 g2
                  go_enter Tryd.func4, Tryd.ntmps4
                  go_wp2_with fail
                  refine CA.out.mono ?_
                  rintro e w1 ⟨rfl, hb1⟩
                  go_wp2_with fail
                  refine (CR1.out _).mono ?_
                  rintro e w2 ⟨rfl, rfl⟩
                  go_wp2_with fail
                  refine (CR2.out _).mono ?_
                  rintro e w2 ⟨rfl, rfl⟩
                  go_wp2_with fail
                  refine (CO1.out _).mono ?_
                  rintro e w3 ⟨rfl, hb2⟩
                  have hb3 := hb1.trans (hb2.mono hb1.size)
                  clear hb1 hb2
                  go_wp2_with fail
                  refine (CO2.out _).mono ?_
                  rintro e w4 ⟨rfl, hb4⟩
                  have hb5 := hb3.trans (hb4.mono hb3.size)
                  clear hb3 hb4
                  go_wp2_with fail
                  refine (HCH1.out 61 (by decide) _ m1 _ HM4.out (HV.out.below w0pos hb5) (by rw [L_append, L_append]; simp [L])).mono ?_
                  rintro e w5 ⟨rfl, hb6⟩
                  have hb7 := hb5.trans (hb6.mono hb5.size)
                  clear hb5 hb6
                  go_wp2_with fail
                  refine (HCH1.out 61 (by decide) _ (doSign 61 m1 S1 G1) _ (HDL.out _) (HV.out.below w0pos hb7) (by rw [L_append, L_append]; simp [L])).mono ?_
                  rw [HDT.out]
                  rintro e w6 ⟨rfl, hb8⟩
                  have hb9 := hb7.trans (hb8.mono hb7.size)
                  clear hb7 hb8
                  go_wp2_with fail
                  refine (HCH2.out _ m1 _ HM4.out (HV.out.below w0pos hb9) (by simp [L])).mono ?_
                  rintro e w7 ⟨rfl, hb10⟩
                  have hb11 := hb9.trans (hb10.mono hb9.size)
                  clear hb9 hb10
                  go_wp2_with fail
                  refine (HCH1.out 45 (by decide) _ m1 _ HM4.out (HV.out.below w0pos hb11) (by rw [L_append, L_append]; simp [L])).mono ?_
                  rw [HD45.out]
                  rintro e w8 ⟨rfl, hb12⟩
                  have hb13 := hb11.trans (hb12.mono hb11.size)
                  clear hb11 hb12
                  go_wp2_with fail
                  go_ret
                  exact ⟨ret_bool (by simp), hb13⟩
              · clear ho1 ho2 hm4 hk4
                by_cases hg1 : sg < 0
                · clear hsg
                  go_enter Tryd.func4, Tryd.ntmps4
                  go_wp2_with fail
                  refine CA.out.mono ?_
                  rintro e w1 ⟨rfl, hb1⟩
                  go_wp2_with fail
                  refine (CR1.out _).mono ?_
                  rintro e w2 ⟨rfl, rfl⟩
                  go_wp2_with fail
                  refine (CR2.out _).mono ?_
                  rintro e w2 ⟨rfl, rfl⟩
                  go_wp2_with fail
                  refine (CO1.out _).mono ?_
                  rintro e w3 ⟨rfl, hb2⟩
                  have hb3 := hb1.trans (hb2.mono hb1.size)
                  clear hb1 hb2
                  go_wp2_with fail
                  refine (CO2.out _).mono ?_
                  rintro e w4 ⟨rfl, hb4⟩
                  have hb5 := hb3.trans (hb4.mono hb3.size)
                  clear hb3 hb4
                  go_wp2_with fail
                  go_ret
                  exact ⟨rfl, hb5⟩
                · have hg2 : 2 < sg := by omega
                  have hg3 : 0 ≤ sg := by omega
                  clear hsg hg1
                  go_enter Tryd.func4, Tryd.ntmps4
                  go_wp2_with fail
                  refine CA.out.mono ?_
                  rintro e w1 ⟨rfl, hb1⟩
                  go_wp2_with fail
                  refine (CR1.out _).mono ?_
                  rintro e w2 ⟨rfl, rfl⟩
                  go_wp2_with fail
                  refine (CR2.out _).mono ?_
                  rintro e w2 ⟨rfl, rfl⟩
                  go_wp2_with fail
                  refine (CO1.out _).mono ?_
                  rintro e w3 ⟨rfl, hb2⟩
                  have hb3 := hb1.trans (hb2.mono hb1.size)
                  clear hb1 hb2
                  go_wp2_with fail
                  refine (CO2.out _).mono ?_
                  rintro e w4 ⟨rfl, hb4⟩
                  have hb5 := hb3.trans (hb4.mono hb3.size)
                  clear hb3 hb4
                  go_wp2_with fail
                  go_ret
                  exact ⟨rfl, hb5⟩
        · clear hm4 hk4
          go_enter Tryd.func4, Tryd.ntmps4
          go_wp2_with fail
          refine CA.out.mono ?_
          rintro e w1 ⟨rfl, hb1⟩
          go_wp2_with fail
          refine (CR1.out _).mono ?_
          rintro e w2 ⟨rfl, rfl⟩
          go_wp2_with fail
          refine (CR2.out _).mono ?_
          rintro e w2 ⟨rfl, rfl⟩
          go_wp2_with fail
          go_ret
          exact ⟨rfl, hb1⟩
      · clear hm4 hk4
        go_enter Tryd.func4, Tryd.ntmps4
        go_wp2_with fail
        refine CA.out.mono ?_
        rintro e w1 ⟨rfl, hb1⟩
        go_wp2_with fail
        refine (CR1.out _).mono ?_
        rintro e w2 ⟨rfl, rfl⟩
        go_wp2_with fail
        refine (CR2.out _).mono ?_
        rintro e w2 ⟨rfl, rfl⟩
        go_wp2_with fail
        go_ret
        exact ⟨rfl, hb1⟩
end Go.Proofs.YtbfplannbhafeaaDoor
