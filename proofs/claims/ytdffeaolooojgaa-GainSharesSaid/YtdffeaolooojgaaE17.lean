/-
  GainShares: the walk.
-/
import Derived.Test.YtdffeaolooojgaaE16
namespace Go.Proofs.Ytdffeaolooojgaa
open Go.RowKit

theorem order_self {x : Nat} (h : isn x = false) : F64.order x x = some .eq := ord_eq h h rfl

set_option maxHeartbeats 6400000 in
theorem shares_any (a b : Int) (x s : Nat) (w : World) (hx : x < 18446744073709551616) (hs : s < 18446744073709551616)
    (ha : -9223372036854775808 ≤ a ∧ a ≤ 9223372036854775807) (hb : -9223372036854775808 ≤ b ∧ b ≤ 9223372036854775807) :
    Calls Try.prog 6 #[.int .i64 a, .int .i64 b, .float .f64 x, .float .f64 s] w fun e w' => e = .returned (.bool true) ∧ Below w.heap.size w w' := by
  have CA := Lib.hid (anchor_any w)
  have CS1 := Lib.hid (share_any a b)
  have CS2 := Lib.hid (rshare_any a b)
  have CSM := Lib.hid (fun (r t : Nat) (h1 : r < 18446744073709551616) (h2 : t < 18446744073709551616) (h : rankN r = rankN t) (W : World) => same_any r t h1 h2 h W)
  have CG := Lib.hid (signed_any x s hx hs)
  have CSV := Lib.hid (fun (h1 : 0 ≤ a ∧ a ≤ 1099511627776) (h2 : 0 ≤ b ∧ b ≤ 1099511627776) (W : World) => saved_any a b W h1 h2)
  have CR := Lib.hid (rshare_any (a - b) a)
  have CL := Lib.hid (Class_any 9223372036854775808)
  have hcl : clsN 9223372036854775808 = 2 := by decide
  rw [hcl] at CL
  have hun := unary_negf hx
  have hys := csign_sgn x s
  have hyn := csign_isn x s
  have hsm := fun h : sgn s = sgn x => csign_same hx h
  have hot := fun h : ¬ sgn s = sgn x => csign_other h
  obtain ⟨y, hy⟩ : ∃ y, csign x s = y := ⟨_, rfl⟩
  rw [hy] at CG hys hyn hsm hot
  clear hcl hy hs
  cases hnx : isn x with
  | true =>
    rw [hnx] at hyn
    have o1 := order_nan1 x hnx
    have o2 := order_nan1 y hyn
    clear hnx hyn hys hsm hot hun hx
    go_enter Try.func6, Try.ntmps6
    go_wp2_with fail
    refine CA.out.mono ?_
    rintro e w1 ⟨rfl, hb1⟩
    have HB1 := Lib.hid hb1
    clear hb1
    go_wp2_with fail
    refine (CS1.out _).mono ?_
    rintro e w2 ⟨⟨r1, rfl, hq1⟩, hb2⟩
    have HQ1 := Lib.hid hq1
    have HB2 := Lib.hid (HB1.out.trans (hb2.mono HB1.out.size))
    clear hb2 hq1
    go_wp2_with fail
    refine (CS2.out _).mono ?_
    rintro e w3 ⟨⟨r2, rfl, hq2⟩, hb3⟩
    have C3 := Lib.hid (CSM.out r1 r2 HQ1.out.1 hq2.1 (HQ1.out.rank hq2))
    have HB3 := Lib.hid (HB2.out.trans (hb3.mono HB2.out.size))
    clear hb3 hq2
    go_wp2_with fail
    refine (C3.out _).mono ?_
    rintro e w4 ⟨rfl, rfl⟩
    go_wp2_with fail
    refine (CG.out _).mono ?_
    rintro e w5 ⟨rfl, rfl⟩
    by_cases hin : (0 ≤ a ∧ a ≤ 1099511627776) ∧ (0 ≤ b ∧ b ≤ 1099511627776)
    · obtain ⟨hi1, hi2⟩ := hin
      have C5 := Lib.hid (CSV.out hi1 hi2)
      go_wp2_with fail
      refine (C5.out _).mono ?_
      rintro e w6 ⟨⟨r3, rfl, hr3⟩, hb6⟩
      have HB6 := Lib.hid (HB3.out.trans (hb6.mono HB3.out.size))
      clear hb6
      rcases hr3 with ⟨rfl, rfl, rfl⟩ | ⟨hne, hq3⟩
      · unfold TOP
        go_wp2_with fail
        refine (CL.out _).mono ?_
        rintro e w7 ⟨rfl, rfl⟩
        go_wp2_with fail
        go_ret
        exact ⟨rfl, HB6.out⟩
      · have HQ3 := Lib.hid hq3
        clear hq3
        by_cases ha0 : a = 0
        · have hb0 : (b == 0) = false := by rw [beq_eq_false_iff_ne]; intro e; exact hne ⟨ha0, e⟩
          have ha1 : (a == 0) = true := by rw [beq_iff_eq]; exact ha0
          clear hne ha0
          go_wp2_with fail
          refine (CR.out _).mono ?_
          rintro e w7 ⟨⟨r4, rfl, hq4⟩, hb7⟩
          have C7 := Lib.hid (CSM.out r3 r4 HQ3.out.1 hq4.1 (HQ3.out.rank hq4))
          have HB7 := Lib.hid (HB6.out.trans (hb7.mono HB6.out.size))
          clear hb7 hq4
          go_wp2_with fail
          refine (C7.out _).mono ?_
          rintro e w8 ⟨rfl, rfl⟩
          go_wp2_with fail
          go_ret
          exact ⟨rfl, HB7.out⟩
        · have ha1 : (a == 0) = false := by rw [beq_eq_false_iff_ne]; exact ha0
          clear hne ha0
          go_wp2_with fail
          refine (CR.out _).mono ?_
          rintro e w7 ⟨⟨r4, rfl, hq4⟩, hb7⟩
          have C7 := Lib.hid (CSM.out r3 r4 HQ3.out.1 hq4.1 (HQ3.out.rank hq4))
          have HB7 := Lib.hid (HB6.out.trans (hb7.mono HB6.out.size))
          clear hb7 hq4
          go_wp2_with fail
          refine (C7.out _).mono ?_
          rintro e w8 ⟨rfl, rfl⟩
          go_wp2_with fail
          go_ret
          exact ⟨rfl, HB7.out⟩
    · clear CSV
      by_cases i1 : a < 0
      · go_wp2_with fail
        go_ret
        exact ⟨rfl, HB3.out⟩
      · by_cases i2 : b < 0
        · go_wp2_with fail
          go_ret
          exact ⟨rfl, HB3.out⟩
        · by_cases i3 : 1099511627776 < a
          · go_wp2_with fail
            go_ret
            exact ⟨rfl, HB3.out⟩
          · have i4 : 1099511627776 < b := by omega
            clear hin
            go_wp2_with fail
            go_ret
            exact ⟨rfl, HB3.out⟩
  | false =>
    rw [hnx] at hyn
    have o1 := order_self hnx
    have o2 := order_self hyn
    cases hns : isn s with
    | true =>
      have o3 := order_nan1 s hns
      clear hnx hyn hns hys hsm hot hun hx
      go_enter Try.func6, Try.ntmps6
      go_wp2_with fail
      refine CA.out.mono ?_
      rintro e w1 ⟨rfl, hb1⟩
      have HB1 := Lib.hid hb1
      clear hb1
      go_wp2_with fail
      refine (CS1.out _).mono ?_
      rintro e w2 ⟨⟨r1, rfl, hq1⟩, hb2⟩
      have HQ1 := Lib.hid hq1
      have HB2 := Lib.hid (HB1.out.trans (hb2.mono HB1.out.size))
      clear hb2 hq1
      go_wp2_with fail
      refine (CS2.out _).mono ?_
      rintro e w3 ⟨⟨r2, rfl, hq2⟩, hb3⟩
      have C3 := Lib.hid (CSM.out r1 r2 HQ1.out.1 hq2.1 (HQ1.out.rank hq2))
      have HB3 := Lib.hid (HB2.out.trans (hb3.mono HB2.out.size))
      clear hb3 hq2
      go_wp2_with fail
      refine (C3.out _).mono ?_
      rintro e w4 ⟨rfl, rfl⟩
      go_wp2_with fail
      refine (CG.out _).mono ?_
      rintro e w5 ⟨rfl, rfl⟩
      by_cases hin : (0 ≤ a ∧ a ≤ 1099511627776) ∧ (0 ≤ b ∧ b ≤ 1099511627776)
      · obtain ⟨hi1, hi2⟩ := hin
        have C5 := Lib.hid (CSV.out hi1 hi2)
        go_wp2_with fail
        refine (C5.out _).mono ?_
        rintro e w6 ⟨⟨r3, rfl, hr3⟩, hb6⟩
        have HB6 := Lib.hid (HB3.out.trans (hb6.mono HB3.out.size))
        clear hb6
        rcases hr3 with ⟨rfl, rfl, rfl⟩ | ⟨hne, hq3⟩
        · unfold TOP
          go_wp2_with fail
          refine (CL.out _).mono ?_
          rintro e w7 ⟨rfl, rfl⟩
          go_wp2_with fail
          go_ret
          exact ⟨rfl, HB6.out⟩
        · have HQ3 := Lib.hid hq3
          clear hq3
          by_cases ha0 : a = 0
          · have hb0 : (b == 0) = false := by rw [beq_eq_false_iff_ne]; intro e; exact hne ⟨ha0, e⟩
            have ha1 : (a == 0) = true := by rw [beq_iff_eq]; exact ha0
            clear hne ha0
            go_wp2_with fail
            refine (CR.out _).mono ?_
            rintro e w7 ⟨⟨r4, rfl, hq4⟩, hb7⟩
            have C7 := Lib.hid (CSM.out r3 r4 HQ3.out.1 hq4.1 (HQ3.out.rank hq4))
            have HB7 := Lib.hid (HB6.out.trans (hb7.mono HB6.out.size))
            clear hb7 hq4
            go_wp2_with fail
            refine (C7.out _).mono ?_
            rintro e w8 ⟨rfl, rfl⟩
            go_wp2_with fail
            go_ret
            exact ⟨rfl, HB7.out⟩
          · have ha1 : (a == 0) = false := by rw [beq_eq_false_iff_ne]; exact ha0
            clear hne ha0
            go_wp2_with fail
            refine (CR.out _).mono ?_
            rintro e w7 ⟨⟨r4, rfl, hq4⟩, hb7⟩
            have C7 := Lib.hid (CSM.out r3 r4 HQ3.out.1 hq4.1 (HQ3.out.rank hq4))
            have HB7 := Lib.hid (HB6.out.trans (hb7.mono HB6.out.size))
            clear hb7 hq4
            go_wp2_with fail
            refine (C7.out _).mono ?_
            rintro e w8 ⟨rfl, rfl⟩
            go_wp2_with fail
            go_ret
            exact ⟨rfl, HB7.out⟩
      · clear CSV
        by_cases i1 : a < 0
        · go_wp2_with fail
          go_ret
          exact ⟨rfl, HB3.out⟩
        · by_cases i2 : b < 0
          · go_wp2_with fail
            go_ret
            exact ⟨rfl, HB3.out⟩
          · by_cases i3 : 1099511627776 < a
            · go_wp2_with fail
              go_ret
              exact ⟨rfl, HB3.out⟩
            · have i4 : 1099511627776 < b := by omega
              clear hin
              go_wp2_with fail
              go_ret
              exact ⟨rfl, HB3.out⟩
    | false =>
      have o3 := order_self hns
      have CB1 := Lib.hid (below_any y hyn)
      have CB2 := Lib.hid (below_any s hns)
      rw [hys] at CB1
      by_cases he : sgn s = sgn x
      · obtain rfl : y = x := hsm he
        obtain ⟨g, hg⟩ : ∃ g, sgn s = g := ⟨_, rfl⟩
        rw [hg] at CB1 CB2
        clear hnx hyn hns hys hsm hot hun hx he hg
        go_enter Try.func6, Try.ntmps6
        go_wp2_with fail
        refine CA.out.mono ?_
        rintro e w1 ⟨rfl, hb1⟩
        have HB1 := Lib.hid hb1
        clear hb1
        go_wp2_with fail
        refine (CS1.out _).mono ?_
        rintro e w2 ⟨⟨r1, rfl, hq1⟩, hb2⟩
        have HQ1 := Lib.hid hq1
        have HB2 := Lib.hid (HB1.out.trans (hb2.mono HB1.out.size))
        clear hb2 hq1
        go_wp2_with fail
        refine (CS2.out _).mono ?_
        rintro e w3 ⟨⟨r2, rfl, hq2⟩, hb3⟩
        have C3 := Lib.hid (CSM.out r1 r2 HQ1.out.1 hq2.1 (HQ1.out.rank hq2))
        have HB3 := Lib.hid (HB2.out.trans (hb3.mono HB2.out.size))
        clear hb3 hq2
        go_wp2_with fail
        refine (C3.out _).mono ?_
        rintro e w4 ⟨rfl, rfl⟩
        go_wp2_with fail
        refine (CG.out _).mono ?_
        rintro e w5 ⟨rfl, rfl⟩
        by_cases hin : (0 ≤ a ∧ a ≤ 1099511627776) ∧ (0 ≤ b ∧ b ≤ 1099511627776)
        · obtain ⟨hi1, hi2⟩ := hin
          have C5 := Lib.hid (CSV.out hi1 hi2)
          go_wp2_with (go_at_call 23; first | (with_reducible refine (CB1.out _).mono ?_; rintro e W ⟨rfl, rfl⟩) | (with_reducible refine (CB2.out _).mono ?_; rintro e W ⟨rfl, rfl⟩))
          refine (C5.out _).mono ?_
          rintro e w6 ⟨⟨r3, rfl, hr3⟩, hb6⟩
          have HB6 := Lib.hid (HB3.out.trans (hb6.mono HB3.out.size))
          clear hb6
          rcases hr3 with ⟨rfl, rfl, rfl⟩ | ⟨hne, hq3⟩
          · unfold TOP
            go_wp2_with fail
            refine (CL.out _).mono ?_
            rintro e w7 ⟨rfl, rfl⟩
            go_wp2_with fail
            go_ret
            exact ⟨rfl, HB6.out⟩
          · have HQ3 := Lib.hid hq3
            clear hq3
            by_cases ha0 : a = 0
            · have hb0 : (b == 0) = false := by rw [beq_eq_false_iff_ne]; intro e; exact hne ⟨ha0, e⟩
              have ha1 : (a == 0) = true := by rw [beq_iff_eq]; exact ha0
              clear hne ha0
              go_wp2_with fail
              refine (CR.out _).mono ?_
              rintro e w7 ⟨⟨r4, rfl, hq4⟩, hb7⟩
              have C7 := Lib.hid (CSM.out r3 r4 HQ3.out.1 hq4.1 (HQ3.out.rank hq4))
              have HB7 := Lib.hid (HB6.out.trans (hb7.mono HB6.out.size))
              clear hb7 hq4
              go_wp2_with fail
              refine (C7.out _).mono ?_
              rintro e w8 ⟨rfl, rfl⟩
              go_wp2_with fail
              go_ret
              exact ⟨rfl, HB7.out⟩
            · have ha1 : (a == 0) = false := by rw [beq_eq_false_iff_ne]; exact ha0
              clear hne ha0
              go_wp2_with fail
              refine (CR.out _).mono ?_
              rintro e w7 ⟨⟨r4, rfl, hq4⟩, hb7⟩
              have C7 := Lib.hid (CSM.out r3 r4 HQ3.out.1 hq4.1 (HQ3.out.rank hq4))
              have HB7 := Lib.hid (HB6.out.trans (hb7.mono HB6.out.size))
              clear hb7 hq4
              go_wp2_with fail
              refine (C7.out _).mono ?_
              rintro e w8 ⟨rfl, rfl⟩
              go_wp2_with fail
              go_ret
              exact ⟨rfl, HB7.out⟩
        · clear CSV
          by_cases i1 : a < 0
          · go_wp2_with (go_at_call 23; first | (with_reducible refine (CB1.out _).mono ?_; rintro e W ⟨rfl, rfl⟩) | (with_reducible refine (CB2.out _).mono ?_; rintro e W ⟨rfl, rfl⟩))
            go_ret
            exact ⟨rfl, HB3.out⟩
          · by_cases i2 : b < 0
            · go_wp2_with (go_at_call 23; first | (with_reducible refine (CB1.out _).mono ?_; rintro e W ⟨rfl, rfl⟩) | (with_reducible refine (CB2.out _).mono ?_; rintro e W ⟨rfl, rfl⟩))
              go_ret
              exact ⟨rfl, HB3.out⟩
            · by_cases i3 : 1099511627776 < a
              · go_wp2_with (go_at_call 23; first | (with_reducible refine (CB1.out _).mono ?_; rintro e W ⟨rfl, rfl⟩) | (with_reducible refine (CB2.out _).mono ?_; rintro e W ⟨rfl, rfl⟩))
                go_ret
                exact ⟨rfl, HB3.out⟩
              · have i4 : 1099511627776 < b := by omega
                clear hin
                go_wp2_with (go_at_call 23; first | (with_reducible refine (CB1.out _).mono ?_; rintro e W ⟨rfl, rfl⟩) | (with_reducible refine (CB2.out _).mono ?_; rintro e W ⟨rfl, rfl⟩))
                go_ret
                exact ⟨rfl, HB3.out⟩
      · have hyy : y = negN x := hot he
        rw [← hyy] at hun
        obtain ⟨g, hg⟩ : ∃ g, sgn s = g := ⟨_, rfl⟩
        rw [hg] at CB1 CB2
        clear hyy hnx hyn hns hys hsm hot hx he hg
        cases ho : (F64.order y x == some .eq) with
        | true =>
          have o4 : F64.order y x = some .eq := by simpa using ho
          clear ho
          go_enter Try.func6, Try.ntmps6
          go_wp2_with fail
          refine CA.out.mono ?_
          rintro e w1 ⟨rfl, hb1⟩
          have HB1 := Lib.hid hb1
          clear hb1
          go_wp2_with fail
          refine (CS1.out _).mono ?_
          rintro e w2 ⟨⟨r1, rfl, hq1⟩, hb2⟩
          have HQ1 := Lib.hid hq1
          have HB2 := Lib.hid (HB1.out.trans (hb2.mono HB1.out.size))
          clear hb2 hq1
          go_wp2_with fail
          refine (CS2.out _).mono ?_
          rintro e w3 ⟨⟨r2, rfl, hq2⟩, hb3⟩
          have C3 := Lib.hid (CSM.out r1 r2 HQ1.out.1 hq2.1 (HQ1.out.rank hq2))
          have HB3 := Lib.hid (HB2.out.trans (hb3.mono HB2.out.size))
          clear hb3 hq2
          go_wp2_with fail
          refine (C3.out _).mono ?_
          rintro e w4 ⟨rfl, rfl⟩
          go_wp2_with fail
          refine (CG.out _).mono ?_
          rintro e w5 ⟨rfl, rfl⟩
          by_cases hin : (0 ≤ a ∧ a ≤ 1099511627776) ∧ (0 ≤ b ∧ b ≤ 1099511627776)
          · obtain ⟨hi1, hi2⟩ := hin
            have C5 := Lib.hid (CSV.out hi1 hi2)
            go_wp2_with (go_at_call 23; first | (with_reducible refine (CB1.out _).mono ?_; rintro e W ⟨rfl, rfl⟩) | (with_reducible refine (CB2.out _).mono ?_; rintro e W ⟨rfl, rfl⟩))
            refine (C5.out _).mono ?_
            rintro e w6 ⟨⟨r3, rfl, hr3⟩, hb6⟩
            have HB6 := Lib.hid (HB3.out.trans (hb6.mono HB3.out.size))
            clear hb6
            rcases hr3 with ⟨rfl, rfl, rfl⟩ | ⟨hne, hq3⟩
            · unfold TOP
              go_wp2_with fail
              refine (CL.out _).mono ?_
              rintro e w7 ⟨rfl, rfl⟩
              go_wp2_with fail
              go_ret
              exact ⟨rfl, HB6.out⟩
            · have HQ3 := Lib.hid hq3
              clear hq3
              by_cases ha0 : a = 0
              · have hb0 : (b == 0) = false := by rw [beq_eq_false_iff_ne]; intro e; exact hne ⟨ha0, e⟩
                have ha1 : (a == 0) = true := by rw [beq_iff_eq]; exact ha0
                clear hne ha0
                go_wp2_with fail
                refine (CR.out _).mono ?_
                rintro e w7 ⟨⟨r4, rfl, hq4⟩, hb7⟩
                have C7 := Lib.hid (CSM.out r3 r4 HQ3.out.1 hq4.1 (HQ3.out.rank hq4))
                have HB7 := Lib.hid (HB6.out.trans (hb7.mono HB6.out.size))
                clear hb7 hq4
                go_wp2_with fail
                refine (C7.out _).mono ?_
                rintro e w8 ⟨rfl, rfl⟩
                go_wp2_with fail
                go_ret
                exact ⟨rfl, HB7.out⟩
              · have ha1 : (a == 0) = false := by rw [beq_eq_false_iff_ne]; exact ha0
                clear hne ha0
                go_wp2_with fail
                refine (CR.out _).mono ?_
                rintro e w7 ⟨⟨r4, rfl, hq4⟩, hb7⟩
                have C7 := Lib.hid (CSM.out r3 r4 HQ3.out.1 hq4.1 (HQ3.out.rank hq4))
                have HB7 := Lib.hid (HB6.out.trans (hb7.mono HB6.out.size))
                clear hb7 hq4
                go_wp2_with fail
                refine (C7.out _).mono ?_
                rintro e w8 ⟨rfl, rfl⟩
                go_wp2_with fail
                go_ret
                exact ⟨rfl, HB7.out⟩
          · clear CSV
            by_cases i1 : a < 0
            · go_wp2_with (go_at_call 23; first | (with_reducible refine (CB1.out _).mono ?_; rintro e W ⟨rfl, rfl⟩) | (with_reducible refine (CB2.out _).mono ?_; rintro e W ⟨rfl, rfl⟩))
              go_ret
              exact ⟨rfl, HB3.out⟩
            · by_cases i2 : b < 0
              · go_wp2_with (go_at_call 23; first | (with_reducible refine (CB1.out _).mono ?_; rintro e W ⟨rfl, rfl⟩) | (with_reducible refine (CB2.out _).mono ?_; rintro e W ⟨rfl, rfl⟩))
                go_ret
                exact ⟨rfl, HB3.out⟩
              · by_cases i3 : 1099511627776 < a
                · go_wp2_with (go_at_call 23; first | (with_reducible refine (CB1.out _).mono ?_; rintro e W ⟨rfl, rfl⟩) | (with_reducible refine (CB2.out _).mono ?_; rintro e W ⟨rfl, rfl⟩))
                  go_ret
                  exact ⟨rfl, HB3.out⟩
                · have i4 : 1099511627776 < b := by omega
                  clear hin
                  go_wp2_with (go_at_call 23; first | (with_reducible refine (CB1.out _).mono ?_; rintro e W ⟨rfl, rfl⟩) | (with_reducible refine (CB2.out _).mono ?_; rintro e W ⟨rfl, rfl⟩))
                  go_ret
                  exact ⟨rfl, HB3.out⟩
        | false =>
          have o4 : (F64.order y x != some .eq) = true := by unfold bne; rw [ho]; rfl
          clear ho
          go_enter Try.func6, Try.ntmps6
          go_wp2_with fail
          refine CA.out.mono ?_
          rintro e w1 ⟨rfl, hb1⟩
          have HB1 := Lib.hid hb1
          clear hb1
          go_wp2_with fail
          refine (CS1.out _).mono ?_
          rintro e w2 ⟨⟨r1, rfl, hq1⟩, hb2⟩
          have HQ1 := Lib.hid hq1
          have HB2 := Lib.hid (HB1.out.trans (hb2.mono HB1.out.size))
          clear hb2 hq1
          go_wp2_with fail
          refine (CS2.out _).mono ?_
          rintro e w3 ⟨⟨r2, rfl, hq2⟩, hb3⟩
          have C3 := Lib.hid (CSM.out r1 r2 HQ1.out.1 hq2.1 (HQ1.out.rank hq2))
          have HB3 := Lib.hid (HB2.out.trans (hb3.mono HB2.out.size))
          clear hb3 hq2
          go_wp2_with fail
          refine (C3.out _).mono ?_
          rintro e w4 ⟨rfl, rfl⟩
          go_wp2_with fail
          refine (CG.out _).mono ?_
          rintro e w5 ⟨rfl, rfl⟩
          by_cases hin : (0 ≤ a ∧ a ≤ 1099511627776) ∧ (0 ≤ b ∧ b ≤ 1099511627776)
          · obtain ⟨hi1, hi2⟩ := hin
            have C5 := Lib.hid (CSV.out hi1 hi2)
            go_wp2_with (go_at_call 23; first | (with_reducible refine (CB1.out _).mono ?_; rintro e W ⟨rfl, rfl⟩) | (with_reducible refine (CB2.out _).mono ?_; rintro e W ⟨rfl, rfl⟩))
            refine (C5.out _).mono ?_
            rintro e w6 ⟨⟨r3, rfl, hr3⟩, hb6⟩
            have HB6 := Lib.hid (HB3.out.trans (hb6.mono HB3.out.size))
            clear hb6
            rcases hr3 with ⟨rfl, rfl, rfl⟩ | ⟨hne, hq3⟩
            · unfold TOP
              go_wp2_with fail
              refine (CL.out _).mono ?_
              rintro e w7 ⟨rfl, rfl⟩
              go_wp2_with fail
              go_ret
              exact ⟨rfl, HB6.out⟩
            · have HQ3 := Lib.hid hq3
              clear hq3
              by_cases ha0 : a = 0
              · have hb0 : (b == 0) = false := by rw [beq_eq_false_iff_ne]; intro e; exact hne ⟨ha0, e⟩
                have ha1 : (a == 0) = true := by rw [beq_iff_eq]; exact ha0
                clear hne ha0
                go_wp2_with fail
                refine (CR.out _).mono ?_
                rintro e w7 ⟨⟨r4, rfl, hq4⟩, hb7⟩
                have C7 := Lib.hid (CSM.out r3 r4 HQ3.out.1 hq4.1 (HQ3.out.rank hq4))
                have HB7 := Lib.hid (HB6.out.trans (hb7.mono HB6.out.size))
                clear hb7 hq4
                go_wp2_with fail
                refine (C7.out _).mono ?_
                rintro e w8 ⟨rfl, rfl⟩
                go_wp2_with fail
                go_ret
                exact ⟨rfl, HB7.out⟩
              · have ha1 : (a == 0) = false := by rw [beq_eq_false_iff_ne]; exact ha0
                clear hne ha0
                go_wp2_with fail
                refine (CR.out _).mono ?_
                rintro e w7 ⟨⟨r4, rfl, hq4⟩, hb7⟩
                have C7 := Lib.hid (CSM.out r3 r4 HQ3.out.1 hq4.1 (HQ3.out.rank hq4))
                have HB7 := Lib.hid (HB6.out.trans (hb7.mono HB6.out.size))
                clear hb7 hq4
                go_wp2_with fail
                refine (C7.out _).mono ?_
                rintro e w8 ⟨rfl, rfl⟩
                go_wp2_with fail
                go_ret
                exact ⟨rfl, HB7.out⟩
          · clear CSV
            by_cases i1 : a < 0
            · go_wp2_with (go_at_call 23; first | (with_reducible refine (CB1.out _).mono ?_; rintro e W ⟨rfl, rfl⟩) | (with_reducible refine (CB2.out _).mono ?_; rintro e W ⟨rfl, rfl⟩))
              go_ret
              exact ⟨rfl, HB3.out⟩
            · by_cases i2 : b < 0
              · go_wp2_with (go_at_call 23; first | (with_reducible refine (CB1.out _).mono ?_; rintro e W ⟨rfl, rfl⟩) | (with_reducible refine (CB2.out _).mono ?_; rintro e W ⟨rfl, rfl⟩))
                go_ret
                exact ⟨rfl, HB3.out⟩
              · by_cases i3 : 1099511627776 < a
                · go_wp2_with (go_at_call 23; first | (with_reducible refine (CB1.out _).mono ?_; rintro e W ⟨rfl, rfl⟩) | (with_reducible refine (CB2.out _).mono ?_; rintro e W ⟨rfl, rfl⟩))
                  go_ret
                  exact ⟨rfl, HB3.out⟩
                · have i4 : 1099511627776 < b := by omega
                  clear hin
                  go_wp2_with (go_at_call 23; first | (with_reducible refine (CB1.out _).mono ?_; rintro e W ⟨rfl, rfl⟩) | (with_reducible refine (CB2.out _).mono ?_; rintro e W ⟨rfl, rfl⟩))
                  go_ret
                  exact ⟨rfl, HB3.out⟩
end Go.Proofs.Ytdffeaolooojgaa
