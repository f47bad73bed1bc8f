/-
  GainTexts: the walk.
-/
import Derived.Test.YtdffeaolooojgaaE14
namespace Go.Proofs.Ytdffeaolooojgaa
open Go.RowKit

theorem order_one : F64.order 4607182418800017408 4607182418800017408 = some .eq := by kernel_rfl

set_option maxHeartbeats 3200000 in
theorem texts_any (a b : ByteArray) (w : World) (ha : a.size ≤ 140737488355328) (hb : b.size ≤ 140737488355328) :
    Calls Try.prog 5 #[.string a, .string b] w fun e w' => e = .returned (.bool true) ∧ Below w.heap.size w w' := by
  have CA := Lib.hid (anchor_any w)
  by_cases h2 : a.size + b.size ≤ 2000
  · have hab : (a ++ b).size ≤ 2000 := by rw [ByteArray.size_append]; exact h2
    have CTA := Lib.hid (fun W => text_any a W (by unfold maxLen; omega))
    have CTB := Lib.hid (fun W => text_any b W (by unfold maxLen; omega))
    have CT := Lib.hid (fun W => text_any (a ++ b) W (by unfold maxLen; omega))
    have CC := Lib.hid (fun W => cost_any 1 (a ++ b) W hab)
    have CB := Lib.hid (fun (W : World) (g : Nat) (hE : Elems W W.heap.size (some ⟨g, 0, none⟩) 3 (([1, 2, 3] : List Int).map intv)) => best_any (a ++ b) _ 3 3 [1, 2, 3] W hE hab (by omega))
    have e1 : L (a ++ b) = L a ++ L b := L_append a b
    have f1 := fun (x : txtB (L a) = true) (y : txtB (L b) = true) => txt_two x y
    have f2 := fun (x : txtB (L a ++ L b) = true) (y : L b ≠ []) => txt_back x y
    have hraw : txtB (L a ++ L b) = true → ∀ v, BestR [1, 2, 3] (L (a ++ b)) v → v = .tuple #[.int .i64 1, .int .i64 0] := fun x v hv => best_raw (l := L (a ++ b)) (e1.symm ▸ x) hab hv
    have hone : txtB (L a ++ L b) = true → ∀ r, CostR 1 (L (a ++ b)) r → r = ONE := fun x r hr => by
      have hne : L (a ++ b) ≠ [] := by intro e; rw [← e1, e] at x; cases x
      have h0 : 0 < (L (a ++ b)).length := List.length_pos_iff.2 hne
      have n1 : nbB 1 (L (a ++ b)) = ((L (a ++ b)).length : Nat) := by unfold nbB; rw [if_pos rfl, if_pos (by rw [e1]; exact x)]
      have := hr.2
      rw [n1] at this
      have hl : (L (a ++ b)).length ≤ 2000 := hab
      rcases this with ⟨e, _⟩ | ⟨e, _⟩ | ⟨_, e⟩
      · omega
      · omega
      · have h2 := quo_self h0 (by omega)
        rcases e.2 with e | ⟨e, _⟩
        · rw [h2] at e; injection e with e; exact e.symm
        · rw [h2] at e; cases e
    have hinf : txtB (L a ++ L b) = false → ∀ r, CostR 1 (L (a ++ b)) r → r = PINF := fun x r hr => by
      have n1 : nbB 1 (L (a ++ b)) = -1 := by unfold nbB; rw [if_pos rfl, if_neg (by rw [e1, x]; decide)]
      have := hr.2
      rw [n1] at this
      rcases this with ⟨e, _⟩ | ⟨_, e⟩ | ⟨e, _⟩
      · omega
      · exact e
      · omega
    rw [e1] at CT
    obtain ⟨t, ht⟩ : ∃ t, txtB (L a ++ L b) = t := ⟨_, rfl⟩
    obtain ⟨ta, hta⟩ : ∃ t, txtB (L a) = t := ⟨_, rfl⟩
    obtain ⟨tb, htb⟩ : ∃ t, txtB (L b) = t := ⟨_, rfl⟩
    rw [ht] at CT f1 f2 hraw hone hinf
    rw [hta] at CTA f1
    rw [htb] at CTB f1 f2
    have HRAW := Lib.hid hraw
    have HONE := Lib.hid hone
    have HINF := Lib.hid hinf
    have hcl : clsN PINF = 5 := by decide
    have CCL := Lib.hid (fun W => Class_any PINF W)
    rw [hcl] at CCL
    obtain ⟨eb, heb⟩ : ∃ eb, b.toList.isEmpty = eb := ⟨_, rfl⟩
    have f3 : eb = false → L b ≠ [] := fun e h => by rw [← heb, toList_L, h] at e; cases e
    clear e1 hraw hone hinf hcl ht hta htb hab
    cases t
    · cases ta
      · clear f1 f2 f3
        go_enter Try.func5, Try.ntmps5
        go_wp2_with fail
        refine CA.out.mono ?_
        rintro e w1 ⟨rfl, hb1⟩
        have HB1 := Lib.hid hb1
        clear hb1
        go_wp2_with fail
        refine (CT.out _).mono ?_
        rintro e w2 ⟨rfl, hb2⟩
        have HB2 := Lib.hid (HB1.out.trans (hb2.mono HB1.out.size))
        clear hb2
        go_wp2_with fail
        refine (CTA.out _).mono ?_
        rintro e w3 ⟨rfl, hb3⟩
        have HB3 := Lib.hid (HB2.out.trans (hb3.mono HB2.out.size))
        clear hb3
        go_wp2_with fail
        refine (CC.out _).mono ?_
        rintro e w5 ⟨⟨r, rfl, hr⟩, hb5⟩
        obtain rfl := HINF.out (by first | rfl | trivial) r hr
        have HB5 := Lib.hid (HB3.out.trans (hb5.mono HB3.out.size))
        clear hb5 hr
        go_wp2_with fail
        refine (CCL.out _).mono ?_
        rintro e w6 ⟨rfl, rfl⟩
        go_wp2_with fail
        go_ret
        exact ⟨rfl, HB5.out⟩
      · cases tb
        · clear f1 f2 f3
          go_enter Try.func5, Try.ntmps5
          go_wp2_with fail
          refine CA.out.mono ?_
          rintro e w1 ⟨rfl, hb1⟩
          have HB1 := Lib.hid hb1
          clear hb1
          go_wp2_with fail
          refine (CT.out _).mono ?_
          rintro e w2 ⟨rfl, hb2⟩
          have HB2 := Lib.hid (HB1.out.trans (hb2.mono HB1.out.size))
          clear hb2
          go_wp2_with fail
          refine (CTA.out _).mono ?_
          rintro e w3 ⟨rfl, hb3⟩
          have HB3 := Lib.hid (HB2.out.trans (hb3.mono HB2.out.size))
          clear hb3
          go_wp2_with fail
          refine (CTB.out _).mono ?_
          rintro e w4 ⟨rfl, hb4⟩
          replace HB3 := Lib.hid (HB3.out.trans (hb4.mono HB3.out.size))
          clear hb4
          go_wp2_with fail
          refine (CC.out _).mono ?_
          rintro e w5 ⟨⟨r, rfl, hr⟩, hb5⟩
          obtain rfl := HINF.out (by first | rfl | trivial) r hr
          have HB5 := Lib.hid (HB3.out.trans (hb5.mono HB3.out.size))
          clear hb5 hr
          go_wp2_with fail
          refine (CCL.out _).mono ?_
          rintro e w6 ⟨rfl, rfl⟩
          go_wp2_with fail
          go_ret
          exact ⟨rfl, HB5.out⟩
        · exact absurd (f1 rfl rfl) (by decide)
    · cases ta
      · cases eb
        · obtain rfl : tb = true := f2 rfl (f3 rfl)
          clear f1 f2 f3
          go_enter Try.func5, Try.ntmps5
          go_wp2_with fail
          refine CA.out.mono ?_
          rintro e w1 ⟨rfl, hb1⟩
          have HB1 := Lib.hid hb1
          clear hb1
          go_wp2_with fail
          refine (CT.out _).mono ?_
          rintro e w2 ⟨rfl, hb2⟩
          have HB2 := Lib.hid (HB1.out.trans (hb2.mono HB1.out.size))
          clear hb2
          go_wp2_with fail
          refine (CTA.out _).mono ?_
          rintro e w3 ⟨rfl, hb3⟩
          have HB3 := Lib.hid (HB2.out.trans (hb3.mono HB2.out.size))
          clear hb3
          go_wp2_with fail
          refine (CTB.out _).mono ?_
          rintro e w4 ⟨rfl, hb4⟩
          replace HB3 := Lib.hid (HB3.out.trans (hb4.mono HB3.out.size))
          clear hb4
          go_wp2_with fail
          refine (CB.out _ _ ?_).mono ?_
          · refine ⟨rfl, by decide, .inr ⟨_, 0, rfl, by simp, fun i hi => ?_⟩⟩
            match i, hi with
            | 0, _ => simp [intv]
            | 1, _ => simp [intv]
            | 2, _ => simp [intv]
          rintro e w5 ⟨⟨v, rfl, hv⟩, hb5⟩
          obtain rfl := HRAW.out (by first | rfl | trivial) v hv
          have HB5 := Lib.hid ((HB3.out.alloc HB3.out.size _).trans (hb5.mono (Nat.le_trans HB3.out.size (by simp))))
          clear hb5 hv
          go_wp2_with fail
          refine (CC.out _).mono ?_
          rintro e w6 ⟨⟨r, rfl, hr⟩, hb6⟩
          obtain rfl := HONE.out (by first | rfl | trivial) r hr
          have HB6 := Lib.hid (HB5.out.trans (hb6.mono HB5.out.size))
          have ho := order_one
          unfold ONE
          clear hb6 hr
          go_wp2_with fail
          go_ret
          exact ⟨rfl, HB6.out⟩
        · clear f1 f2 f3
          go_enter Try.func5, Try.ntmps5
          go_wp2_with fail
          refine CA.out.mono ?_
          rintro e w1 ⟨rfl, hb1⟩
          have HB1 := Lib.hid hb1
          clear hb1
          go_wp2_with fail
          refine (CT.out _).mono ?_
          rintro e w2 ⟨rfl, hb2⟩
          have HB2 := Lib.hid (HB1.out.trans (hb2.mono HB1.out.size))
          clear hb2
          go_wp2_with fail
          refine (CTA.out _).mono ?_
          rintro e w3 ⟨rfl, hb3⟩
          have HB3 := Lib.hid (HB2.out.trans (hb3.mono HB2.out.size))
          clear hb3
          go_wp2_with fail
          refine (CB.out _ _ ?_).mono ?_
          · refine ⟨rfl, by decide, .inr ⟨_, 0, rfl, by simp, fun i hi => ?_⟩⟩
            match i, hi with
            | 0, _ => simp [intv]
            | 1, _ => simp [intv]
            | 2, _ => simp [intv]
          rintro e w5 ⟨⟨v, rfl, hv⟩, hb5⟩
          obtain rfl := HRAW.out (by first | rfl | trivial) v hv
          have HB5 := Lib.hid ((HB3.out.alloc HB3.out.size _).trans (hb5.mono (Nat.le_trans HB3.out.size (by simp))))
          clear hb5 hv
          go_wp2_with fail
          refine (CC.out _).mono ?_
          rintro e w6 ⟨⟨r, rfl, hr⟩, hb6⟩
          obtain rfl := HONE.out (by first | rfl | trivial) r hr
          have HB6 := Lib.hid (HB5.out.trans (hb6.mono HB5.out.size))
          have ho := order_one
          unfold ONE
          clear hb6 hr
          go_wp2_with fail
          go_ret
          exact ⟨rfl, HB6.out⟩
      · cases eb
        · obtain rfl : tb = true := f2 rfl (f3 rfl)
          clear f1 f2 f3
          go_enter Try.func5, Try.ntmps5
          go_wp2_with fail
          refine CA.out.mono ?_
          rintro e w1 ⟨rfl, hb1⟩
          have HB1 := Lib.hid hb1
          clear hb1
          go_wp2_with fail
          refine (CT.out _).mono ?_
          rintro e w2 ⟨rfl, hb2⟩
          have HB2 := Lib.hid (HB1.out.trans (hb2.mono HB1.out.size))
          clear hb2
          go_wp2_with fail
          refine (CTA.out _).mono ?_
          rintro e w3 ⟨rfl, hb3⟩
          have HB3 := Lib.hid (HB2.out.trans (hb3.mono HB2.out.size))
          clear hb3
          go_wp2_with fail
          refine (CTB.out _).mono ?_
          rintro e w4 ⟨rfl, hb4⟩
          replace HB3 := Lib.hid (HB3.out.trans (hb4.mono HB3.out.size))
          clear hb4
          go_wp2_with fail
          refine (CTB.out _).mono ?_
          rintro e w4 ⟨rfl, hb4⟩
          replace HB3 := Lib.hid (HB3.out.trans (hb4.mono HB3.out.size))
          clear hb4
          go_wp2_with fail
          refine (CB.out _ _ ?_).mono ?_
          · refine ⟨rfl, by decide, .inr ⟨_, 0, rfl, by simp, fun i hi => ?_⟩⟩
            match i, hi with
            | 0, _ => simp [intv]
            | 1, _ => simp [intv]
            | 2, _ => simp [intv]
          rintro e w5 ⟨⟨v, rfl, hv⟩, hb5⟩
          obtain rfl := HRAW.out (by first | rfl | trivial) v hv
          have HB5 := Lib.hid ((HB3.out.alloc HB3.out.size _).trans (hb5.mono (Nat.le_trans HB3.out.size (by simp))))
          clear hb5 hv
          go_wp2_with fail
          refine (CC.out _).mono ?_
          rintro e w6 ⟨⟨r, rfl, hr⟩, hb6⟩
          obtain rfl := HONE.out (by first | rfl | trivial) r hr
          have HB6 := Lib.hid (HB5.out.trans (hb6.mono HB5.out.size))
          have ho := order_one
          unfold ONE
          clear hb6 hr
          go_wp2_with fail
          go_ret
          exact ⟨rfl, HB6.out⟩
        · clear f1 f2 f3
          cases tb
          · skip
            go_enter Try.func5, Try.ntmps5
            go_wp2_with fail
            refine CA.out.mono ?_
            rintro e w1 ⟨rfl, hb1⟩
            have HB1 := Lib.hid hb1
            clear hb1
            go_wp2_with fail
            refine (CT.out _).mono ?_
            rintro e w2 ⟨rfl, hb2⟩
            have HB2 := Lib.hid (HB1.out.trans (hb2.mono HB1.out.size))
            clear hb2
            go_wp2_with fail
            refine (CTA.out _).mono ?_
            rintro e w3 ⟨rfl, hb3⟩
            have HB3 := Lib.hid (HB2.out.trans (hb3.mono HB2.out.size))
            clear hb3
            go_wp2_with fail
            refine (CTB.out _).mono ?_
            rintro e w4 ⟨rfl, hb4⟩
            replace HB3 := Lib.hid (HB3.out.trans (hb4.mono HB3.out.size))
            clear hb4
            go_wp2_with fail
            refine (CB.out _ _ ?_).mono ?_
            · refine ⟨rfl, by decide, .inr ⟨_, 0, rfl, by simp, fun i hi => ?_⟩⟩
              match i, hi with
              | 0, _ => simp [intv]
              | 1, _ => simp [intv]
              | 2, _ => simp [intv]
            rintro e w5 ⟨⟨v, rfl, hv⟩, hb5⟩
            obtain rfl := HRAW.out (by first | rfl | trivial) v hv
            have HB5 := Lib.hid ((HB3.out.alloc HB3.out.size _).trans (hb5.mono (Nat.le_trans HB3.out.size (by simp))))
            clear hb5 hv
            go_wp2_with fail
            refine (CC.out _).mono ?_
            rintro e w6 ⟨⟨r, rfl, hr⟩, hb6⟩
            obtain rfl := HONE.out (by first | rfl | trivial) r hr
            have HB6 := Lib.hid (HB5.out.trans (hb6.mono HB5.out.size))
            have ho := order_one
            unfold ONE
            clear hb6 hr
            go_wp2_with fail
            go_ret
            exact ⟨rfl, HB6.out⟩
          · skip
            go_enter Try.func5, Try.ntmps5
            go_wp2_with fail
            refine CA.out.mono ?_
            rintro e w1 ⟨rfl, hb1⟩
            have HB1 := Lib.hid hb1
            clear hb1
            go_wp2_with fail
            refine (CT.out _).mono ?_
            rintro e w2 ⟨rfl, hb2⟩
            have HB2 := Lib.hid (HB1.out.trans (hb2.mono HB1.out.size))
            clear hb2
            go_wp2_with fail
            refine (CTA.out _).mono ?_
            rintro e w3 ⟨rfl, hb3⟩
            have HB3 := Lib.hid (HB2.out.trans (hb3.mono HB2.out.size))
            clear hb3
            go_wp2_with fail
            refine (CTB.out _).mono ?_
            rintro e w4 ⟨rfl, hb4⟩
            replace HB3 := Lib.hid (HB3.out.trans (hb4.mono HB3.out.size))
            clear hb4
            go_wp2_with fail
            refine (CB.out _ _ ?_).mono ?_
            · refine ⟨rfl, by decide, .inr ⟨_, 0, rfl, by simp, fun i hi => ?_⟩⟩
              match i, hi with
              | 0, _ => simp [intv]
              | 1, _ => simp [intv]
              | 2, _ => simp [intv]
            rintro e w5 ⟨⟨v, rfl, hv⟩, hb5⟩
            obtain rfl := HRAW.out (by first | rfl | trivial) v hv
            have HB5 := Lib.hid ((HB3.out.alloc HB3.out.size _).trans (hb5.mono (Nat.le_trans HB3.out.size (by simp))))
            clear hb5 hv
            go_wp2_with fail
            refine (CC.out _).mono ?_
            rintro e w6 ⟨⟨r, rfl, hr⟩, hb6⟩
            obtain rfl := HONE.out (by first | rfl | trivial) r hr
            have HB6 := Lib.hid (HB5.out.trans (hb6.mono HB5.out.size))
            have ho := order_one
            unfold ONE
            clear hb6 hr
            go_wp2_with fail
            go_ret
            exact ⟨rfl, HB6.out⟩
  · go_enter Try.func5, Try.ntmps5
    go_wp2_with fail
    refine CA.out.mono ?_
    rintro e w1 ⟨rfl, hb1⟩
    have HB1 := Lib.hid hb1
    clear hb1
    go_wp2_with fail
    go_ret
    exact ⟨rfl, HB1.out⟩
end Go.Proofs.Ytdffeaolooojgaa
