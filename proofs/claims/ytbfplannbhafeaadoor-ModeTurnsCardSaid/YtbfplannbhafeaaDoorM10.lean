/-
  The walk of the statement ModeTurns.
-/
import Derived.Test.YtbfplannbhafeaaDoorM9
namespace Go.Proofs.YtbfplannbhafeaaDoor
open Go.RowKit

set_option maxRecDepth 100000 in
set_option maxHeartbeats 4000000 in
theorem turns_any (a b : ByteArray) (m n : Int) (dir : Bool) (k : Int) (w : World) (ha0 : a.size ≤ 140737488355327) (hb0 : b.size ≤ 140737488355327) (hv : Held w) :
    Calls Tryd.prog 5 #[.string a, .string b, .int .i64 m, .int .i64 n, .bool dir, .int .i64 k] w fun e w' => e = .returned (.bool true) ∧ Below w.heap.size w w' := by
  have w0pos := hv.2
  have HV := Lib.hid hv
  have CA := Lib.hid (anchor_any w hv)
  clear hv
  by_cases hsum : a.size + b.size ≤ 200
  · obtain ⟨rm, hrm⟩ : ∃ b, b = (decide (0 ≤ m) && decide (m ≤ 4095)) := ⟨_, rfl⟩
    obtain ⟨rn, hrn⟩ : ∃ b, b = (decide (0 ≤ n) && decide (n ≤ 4095)) := ⟨_, rfl⟩
    obtain ⟨rk, hrk⟩ : ∃ b, b = (decide (0 ≤ k) && decide (k ≤ 4095)) := ⟨_, rfl⟩
    have CR1 := Lib.hid (fun w => right_any m w rm hrm)
    have CR2 := Lib.hid (fun w => right_any n w rn hrn)
    have CR3 := Lib.hid (fun w => right_any k w rk hrk)
    cases rm with
    | false =>
      clear hrm hrn hrk
      go_enter Tryd.func5, Tryd.ntmps5
      go_wp2_with fail
      refine CA.out.mono ?_
      rintro e w1 ⟨rfl, hb1⟩
      go_wp2_with fail
      refine (CR1.out _).mono ?_
      rintro e w2 ⟨rfl, rfl⟩
      go_wp2_with fail
      go_ret
      exact ⟨rfl, hb1⟩
    | true =>
      cases rn with
      | false =>
        clear hrm hrn hrk
        go_enter Tryd.func5, Tryd.ntmps5
        go_wp2_with fail
        refine CA.out.mono ?_
        rintro e w1 ⟨rfl, hb1⟩
        go_wp2_with fail
        refine (CR1.out _).mono ?_
        rintro e w2 ⟨rfl, rfl⟩
        go_wp2_with fail
        refine (CR2.out _).mono ?_
        rintro e w2 ⟨rfl, rfl⟩
        go_wp2_with fail
        go_ret
        exact ⟨rfl, hb1⟩
      | true =>
        cases rk with
        | false =>
          clear hrm hrn hrk
          go_enter Tryd.func5, Tryd.ntmps5
          go_wp2_with fail
          refine CA.out.mono ?_
          rintro e w1 ⟨rfl, hb1⟩
          go_wp2_with fail
          refine (CR1.out _).mono ?_
          rintro e w2 ⟨rfl, rfl⟩
          go_wp2_with fail
          refine (CR2.out _).mono ?_
          rintro e w2 ⟨rfl, rfl⟩
          go_wp2_with fail
          refine (CR3.out _).mono ?_
          rintro e w2 ⟨rfl, rfl⟩
          go_wp2_with fail
          go_ret
          exact ⟨rfl, hb1⟩
        | true =>
          obtain ⟨m1, rfl⟩ : ∃ x : Nat, m = x := ⟨m.toNat, by simp at hrm; omega⟩
          obtain ⟨n1, rfl⟩ : ∃ x : Nat, n = x := ⟨n.toNat, by simp at hrn; omega⟩
          obtain ⟨k1, rfl⟩ : ∃ x : Nat, k = x := ⟨k.toNat, by simp at hrk; omega⟩
          have hm4 : m1 < 4096 := by simp at hrm; omega
          have hn4 : n1 < 4096 := by simp at hrn; omega
          have hk4 : k1 < 4096 := by simp at hrk; omega
          clear hrm hrn hrk
          obtain ⟨o, ho⟩ : ∃ o, o = S (octS m1) := ⟨_, rfl⟩
          have C1 := Lib.hid (fun w => octal4_any m1 w hm4)
          rw [← ho] at C1
          have C2 : Hid (∀ w, Held w → Calls Tryd.prog 9 #[.string o, .int .i64 (n1 : Nat), .bool dir, .int .i64 (k1 : Nat)] w fun e w' => e = .returned (.tuple #[.int .i64 (m1 : Nat), .int .i64 0]) ∧ Below w.heap.size w w') := Lib.hid fun w hv => by
            have := change_any o n1 dir k1 w (by rw [ho, S_size]; simp [octS]) hn4 hk4 hv
            rw [ho, L_S, octal_change hm4, ← ho] at this
            exact this
          obtain ⟨⟨x, e⟩, hR⟩ : ∃ r, changeP dir k1 (L a) m1 = r := ⟨_, rfl⟩
          have C3 : Hid (∀ w, Held w → Calls Tryd.prog 9 #[.string a, .int .i64 (m1 : Nat), .bool dir, .int .i64 (k1 : Nat)] w fun e' w' => e' = .returned (.tuple #[.int .i64 (x : Nat), .int .i64 e]) ∧ Below w.heap.size w w') := Lib.hid fun w hv => by
            have := change_any a m1 dir k1 w (by omega) hm4 hk4 hv
            rw [hR] at this
            exact this
          have HR := Lib.hid hR
          have HM4 := Lib.hid hm4
          have HK4 := Lib.hid hk4
          clear ho hR hm4 hn4 hk4
          cases ea : a.toList.isEmpty with
          | true =>
            go_enter Tryd.func5, Tryd.ntmps5
            go_wp2_with fail
            refine CA.out.mono ?_
            rintro e w1 ⟨rfl, hb1⟩
            go_wp2_with fail
            refine (CR1.out _).mono ?_
            rintro e w2 ⟨rfl, rfl⟩
            go_wp2_with fail
            refine (CR2.out _).mono ?_
            rintro e w2 ⟨rfl, rfl⟩
            go_wp2_with fail
            refine (CR3.out _).mono ?_
            rintro e w2 ⟨rfl, rfl⟩
            go_wp2_with fail
            refine (C1.out _).mono ?_
            rintro e w3 ⟨rfl, hb2⟩
            have hb3 := hb1.trans (hb2.mono hb1.size)
            clear hb1 hb2
            go_wp2_with fail
            refine (C2.out _ (HV.out.below w0pos hb3)).mono ?_
            rintro e w4 ⟨rfl, hb4⟩
            have hb5 := hb3.trans (hb4.mono hb3.size)
            clear hb3 hb4
            go_wp2_with fail
            refine (C3.out _ (HV.out.below w0pos hb5)).mono ?_
            rintro e w5 ⟨rfl, hb6⟩
            have hb7 := hb5.trans (hb6.mono hb5.size)
            clear hb5 hb6
            go_wp2_with fail
            go_ret
            exact ⟨rfl, hb7⟩
          | false =>
            cases eb : b.toList.isEmpty with
            | true =>
              go_enter Tryd.func5, Tryd.ntmps5
              go_wp2_with fail
              refine CA.out.mono ?_
              rintro e w1 ⟨rfl, hb1⟩
              go_wp2_with fail
              refine (CR1.out _).mono ?_
              rintro e w2 ⟨rfl, rfl⟩
              go_wp2_with fail
              refine (CR2.out _).mono ?_
              rintro e w2 ⟨rfl, rfl⟩
              go_wp2_with fail
              refine (CR3.out _).mono ?_
              rintro e w2 ⟨rfl, rfl⟩
              go_wp2_with fail
              refine (C1.out _).mono ?_
              rintro e w3 ⟨rfl, hb2⟩
              have hb3 := hb1.trans (hb2.mono hb1.size)
              clear hb1 hb2
              go_wp2_with fail
              refine (C2.out _ (HV.out.below w0pos hb3)).mono ?_
              rintro e w4 ⟨rfl, hb4⟩
              have hb5 := hb3.trans (hb4.mono hb3.size)
              clear hb3 hb4
              go_wp2_with fail
              refine (C3.out _ (HV.out.below w0pos hb5)).mono ?_
              rintro e w5 ⟨rfl, hb6⟩
              have hb7 := hb5.trans (hb6.mono hb5.size)
              clear hb5 hb6
              go_wp2_with fail
              go_ret
              exact ⟨rfl, hb7⟩
            | false =>
              have hane : L a ≠ [] := by rw [isEmpty_L] at ea; simpa using ea
              have hbne : L b ≠ [] := by rw [isEmpty_L] at eb; simpa using eb
              have hap : 0 < a.size := List.length_pos_iff.2 hane
              have hbp : 0 < b.size := List.length_pos_iff.2 hbne
              have i0 := run_idx (P := Tryd.prog) (k := .i64) Tryd.underlying9 a 0 0 rfl hap
              have i1 := run_idx (P := Tryd.prog) (k := .i64) Tryd.underlying9 b 0 0 rfl hbp
              obtain ⟨xa, hxa⟩ : ∃ x, x = ((L a).getD 0 0).toNat := ⟨_, rfl⟩
              obtain ⟨xb, hxb⟩ : ∃ x, x = ((L b).getD 0 0).toNat := ⟨_, rfl⟩
              rw [← hxa] at i0
              rw [← hxb] at i1
              have HANE := Lib.hid hane
              have HBNE := Lib.hid hbne
              have HXA := Lib.hid hxa
              have HXB := Lib.hid hxb
              clear hane hbne hxa hxb
              by_cases da : 48 ≤ xa ∧ xa ≤ 57
              · obtain ⟨da1, da2⟩ := da
                go_enter Tryd.func5, Tryd.ntmps5
                go_wp2_with fail
                refine CA.out.mono ?_
                rintro e w1 ⟨rfl, hb1⟩
                go_wp2_with fail
                refine (CR1.out _).mono ?_
                rintro e w2 ⟨rfl, rfl⟩
                go_wp2_with fail
                refine (CR2.out _).mono ?_
                rintro e w2 ⟨rfl, rfl⟩
                go_wp2_with fail
                refine (CR3.out _).mono ?_
                rintro e w2 ⟨rfl, rfl⟩
                go_wp2_with fail
                refine (C1.out _).mono ?_
                rintro e w3 ⟨rfl, hb2⟩
                have hb3 := hb1.trans (hb2.mono hb1.size)
                clear hb1 hb2
                go_wp2_with fail
                refine (C2.out _ (HV.out.below w0pos hb3)).mono ?_
                rintro e w4 ⟨rfl, hb4⟩
                have hb5 := hb3.trans (hb4.mono hb3.size)
                clear hb3 hb4
                go_wp2_with fail
                refine (C3.out _ (HV.out.below w0pos hb5)).mono ?_
                rintro e w5 ⟨rfl, hb6⟩
                have hb7 := hb5.trans (hb6.mono hb5.size)
                clear hb5 hb6
                go_wp2_with fail
                go_ret
                exact ⟨rfl, hb7⟩
              · by_cases db : 48 ≤ xb ∧ xb ≤ 57
                · obtain ⟨db1, db2⟩ := db
                  have ka : xa < 48 ∨ 57 < xa := by omega
                  clear da
                  rcases ka with ka | ka
                  · skip
                    go_enter Tryd.func5, Tryd.ntmps5
                    go_wp2_with fail
                    refine CA.out.mono ?_
                    rintro e w1 ⟨rfl, hb1⟩
                    go_wp2_with fail
                    refine (CR1.out _).mono ?_
                    rintro e w2 ⟨rfl, rfl⟩
                    go_wp2_with fail
                    refine (CR2.out _).mono ?_
                    rintro e w2 ⟨rfl, rfl⟩
                    go_wp2_with fail
                    refine (CR3.out _).mono ?_
                    rintro e w2 ⟨rfl, rfl⟩
                    go_wp2_with fail
                    refine (C1.out _).mono ?_
                    rintro e w3 ⟨rfl, hb2⟩
                    have hb3 := hb1.trans (hb2.mono hb1.size)
                    clear hb1 hb2
                    go_wp2_with fail
                    refine (C2.out _ (HV.out.below w0pos hb3)).mono ?_
                    rintro e w4 ⟨rfl, hb4⟩
                    have hb5 := hb3.trans (hb4.mono hb3.size)
                    clear hb3 hb4
                    go_wp2_with fail
                    refine (C3.out _ (HV.out.below w0pos hb5)).mono ?_
                    rintro e w5 ⟨rfl, hb6⟩
                    have hb7 := hb5.trans (hb6.mono hb5.size)
                    clear hb5 hb6
                    go_wp2_with fail
                    go_ret
                    exact ⟨rfl, hb7⟩
                  · skip
                    go_enter Tryd.func5, Tryd.ntmps5
                    go_wp2_with fail
                    refine CA.out.mono ?_
                    rintro e w1 ⟨rfl, hb1⟩
                    go_wp2_with fail
                    refine (CR1.out _).mono ?_
                    rintro e w2 ⟨rfl, rfl⟩
                    go_wp2_with fail
                    refine (CR2.out _).mono ?_
                    rintro e w2 ⟨rfl, rfl⟩
                    go_wp2_with fail
                    refine (CR3.out _).mono ?_
                    rintro e w2 ⟨rfl, rfl⟩
                    go_wp2_with fail
                    refine (C1.out _).mono ?_
                    rintro e w3 ⟨rfl, hb2⟩
                    have hb3 := hb1.trans (hb2.mono hb1.size)
                    clear hb1 hb2
                    go_wp2_with fail
                    refine (C2.out _ (HV.out.below w0pos hb3)).mono ?_
                    rintro e w4 ⟨rfl, hb4⟩
                    have hb5 := hb3.trans (hb4.mono hb3.size)
                    clear hb3 hb4
                    go_wp2_with fail
                    refine (C3.out _ (HV.out.below w0pos hb5)).mono ?_
                    rintro e w5 ⟨rfl, hb6⟩
                    have hb7 := hb5.trans (hb6.mono hb5.size)
                    clear hb5 hb6
                    go_wp2_with fail
                    go_ret
                    exact ⟨rfl, hb7⟩
                · have HDA := Lib.hid da
                  have HDB := Lib.hid db
                  have ka : xa < 48 ∨ 57 < xa := by omega
                  have kb : xb < 48 ∨ 57 < xb := by omega
                  clear da db
                  by_cases he : e = 0
                  · subst he
                    obtain ⟨hx4, hturn⟩ := turns_law HANE.out HBNE.out (by unfold digB; rw [← HXA.out]; exact HDA.out) (by unfold digB; rw [← HXB.out]; exact HDB.out) HM4.out HR.out
                    obtain ⟨⟨y, f⟩, hY⟩ : ∃ r, changeP dir k1 (L b) x = r := ⟨_, rfl⟩
                    have C4 : Hid (∀ w, Held w → Calls Tryd.prog 9 #[.string b, .int .i64 (x : Nat), .bool dir, .int .i64 (k1 : Nat)] w fun e' w' => e' = .returned (.tuple #[.int .i64 (y : Nat), .int .i64 f]) ∧ Below w.heap.size w w') := Lib.hid fun w hv => by
                      have := change_any b x dir k1 w (by omega) hx4 HK4.out hv
                      rw [hY] at this
                      exact this
                    have C5 : Hid (∀ w, Held w → Calls Tryd.prog 9 #[.string (a ++ ⟨#[44]⟩ ++ b), .int .i64 (m1 : Nat), .bool dir, .int .i64 (k1 : Nat)] w fun e' w' => e' = .returned (.tuple #[.int .i64 (y : Nat), .int .i64 f]) ∧ Below w.heap.size w w') := Lib.hid fun w hv => by
                      have hl : L (a ++ ⟨#[44]⟩ ++ b) = L a ++ 44 :: L b := by rw [L_append, L_append]; simp
                      have := change_any (a ++ ⟨#[44]⟩ ++ b) m1 dir k1 w (by rw [← L_size, hl]; simp [L_size]; omega) HM4.out HK4.out hv
                      rw [hl, hturn, hY] at this
                      exact this
                    clear hx4 hturn hY
                    rcases ka with ka | ka <;> rcases kb with kb | kb
                    all_goals
                      go_enter Tryd.func5, Tryd.ntmps5
                      go_wp2_with fail
                      refine CA.out.mono ?_
                      rintro e w1 ⟨rfl, hb1⟩
                      go_wp2_with fail
                      refine (CR1.out _).mono ?_
                      rintro e w2 ⟨rfl, rfl⟩
                      go_wp2_with fail
                      refine (CR2.out _).mono ?_
                      rintro e w2 ⟨rfl, rfl⟩
                      go_wp2_with fail
                      refine (CR3.out _).mono ?_
                      rintro e w2 ⟨rfl, rfl⟩
                      go_wp2_with fail
                      refine (C1.out _).mono ?_
                      rintro e w3 ⟨rfl, hb2⟩
                      have hb3 := hb1.trans (hb2.mono hb1.size)
                      clear hb1 hb2
                      go_wp2_with fail
                      refine (C2.out _ (HV.out.below w0pos hb3)).mono ?_
                      rintro e w4 ⟨rfl, hb4⟩
                      have hb5 := hb3.trans (hb4.mono hb3.size)
                      clear hb3 hb4
                      go_wp2_with fail
                      refine (C3.out _ (HV.out.below w0pos hb5)).mono ?_
                      rintro e w5 ⟨rfl, hb6⟩
                      have hb7 := hb5.trans (hb6.mono hb5.size)
                      clear hb5 hb6
                      go_wp2_with fail
                      refine (C4.out _ (HV.out.below w0pos hb7)).mono ?_
                      rintro e w6 ⟨rfl, hb8⟩
                      have hb9 := hb7.trans (hb8.mono hb7.size)
                      clear hb7 hb8
                      go_wp2_with fail
                      refine (C5.out _ (HV.out.below w0pos hb9)).mono ?_
                      rintro e w7 ⟨rfl, hb10⟩
                      have hb11 := hb9.trans (hb10.mono hb9.size)
                      clear hb9 hb10
                      go_wp2_with fail
                      go_ret
                      exact ⟨ret_bool (by simp), hb11⟩
                  · have ht : (e != 0) = true := by rw [bne_iff_ne]; exact he
                    have ht2 : (e == 0) = false := by rw [beq_eq_false_iff_ne]; exact he
                    clear he
                    rcases ka with ka | ka <;> rcases kb with kb | kb
                    all_goals
                      go_enter Tryd.func5, Tryd.ntmps5
                      go_wp2_with fail
                      refine CA.out.mono ?_
                      rintro e w1 ⟨rfl, hb1⟩
                      go_wp2_with fail
                      refine (CR1.out _).mono ?_
                      rintro e w2 ⟨rfl, rfl⟩
                      go_wp2_with fail
                      refine (CR2.out _).mono ?_
                      rintro e w2 ⟨rfl, rfl⟩
                      go_wp2_with fail
                      refine (CR3.out _).mono ?_
                      rintro e w2 ⟨rfl, rfl⟩
                      go_wp2_with fail
                      refine (C1.out _).mono ?_
                      rintro e w3 ⟨rfl, hb2⟩
                      have hb3 := hb1.trans (hb2.mono hb1.size)
                      clear hb1 hb2
                      go_wp2_with fail
                      refine (C2.out _ (HV.out.below w0pos hb3)).mono ?_
                      rintro e w4 ⟨rfl, hb4⟩
                      have hb5 := hb3.trans (hb4.mono hb3.size)
                      clear hb3 hb4
                      go_wp2_with fail
                      refine (C3.out _ (HV.out.below w0pos hb5)).mono ?_
                      rintro e w5 ⟨rfl, hb6⟩
                      have hb7 := hb5.trans (hb6.mono hb5.size)
                      clear hb5 hb6
                      go_wp2_with fail
                      go_ret
                      exact ⟨rfl, hb7⟩
  · skip
    go_enter Tryd.func5, Tryd.ntmps5
    go_wp2_with fail
    refine CA.out.mono ?_
    rintro e w1 ⟨rfl, hb1⟩
    go_wp2_with fail
    go_ret
    exact ⟨rfl, hb1⟩
end Go.Proofs.YtbfplannbhafeaaDoor
