/-
  The walks of TagFinds and TagRises.
-/
import Derived.Test.YtkeinpifbiiodaaW5
namespace Go.Proofs.Ytkeinpifbiiodaa
open Go.RowKit

theorem small_sizes {ss : List ByteArray} (h : smallB ss = true) : (∀ s ∈ ss, s.size ≤ 500) ∧ ss.length ≤ 30 := by
  simpa only [smallB, Bool.and_eq_true, List.all_eq_true, decide_eq_true_eq] using h

/-- The variable of the library's that strings.Contains reads holds some number. -/
def Held (w : World) : Prop := (∃ c, w.cell? ⟨0, 0, none⟩ = some (.int .i64 c)) ∧ 0 < w.heap.size
theorem Held.below {w w' : World} (h : Held w) {B : Nat} (hB : 0 < B) (hb : Below B w w') : Held w' := by
  obtain ⟨⟨c, hc⟩, h0⟩ := h
  exact ⟨⟨c, by rw [hb.cell (p := ⟨0, 0, none⟩) hB]; exact hc⟩, by have := hb.size; omega⟩

set_option maxRecDepth 100000 in
set_option maxHeartbeats 800000 in
theorem finds_any (fr x : Int) (a : Option Addr) (n cap : Nat) (ss : List ByteArray) (w : World) (h : Elems w w.heap.size a n (ss.map .string)) (hf1 : fr ≤ 9223372036854775807) (hv : Held w) :
    Calls Try.prog 4 #[.int .i64 fr, .slice a n cap, .int .i64 x] w fun e w' => e = .returned (.bool true) ∧ Below w.heap.size w w' := by
  have HE := Lib.hid h
  have HV := Lib.hid hv
  obtain ⟨m, hm⟩ := first_exists ss fr.toNat
  have HM := Lib.hid hm
  clear h hm hv
  by_cases hsm : smallB ss = true
  · have hs2 := small_sizes hsm
    have HS : Hid (∀ s ∈ ss, s.size ≤ 100000) := fun s hs => by have := hs2.1 s hs; omega
    have HSM := Lib.hid hsm
    clear hs2 hsm
    by_cases hx : 0 ≤ x ∧ x < 11881376
    · obtain ⟨hx1, hx2⟩ := hx
      obtain ⟨k, rfl⟩ := Int.eq_ofNat_of_zero_le hx1
      have hk : k < 11881376 := by omega
      have HK := Lib.hid hk
      have t1 : decide ((k : Int) < 0) = false := by simp
      have t2 : decide ((k : Int) ≥ 11881376) = false := by simp; omega
      have e1 : (⟨#[66, 81]⟩ : ByteArray) ++ S (lets 5 k) = S (halfB k) := L_inj (by rw [L_append, L_S, L_S]; rfl)
      have e2 : (⟨#[69, 81]⟩ : ByteArray) ++ S (lets 5 k) = S (halfE k) := L_inj (by rw [L_append, L_S, L_S]; rfl)
      have E1 := Lib.hid e1
      have E2 := Lib.hid e2
      clear hx1 hx2 hk e1 e2
      cases m with
      | none =>
        go_enter Try.func4, Try.ntmps4
        go_wp2_with fail
        refine (anchor_any _).mono ?_
        rintro e w1 ⟨rfl, hb1⟩
        go_wp2_with fail
        refine (small_any _ _ _ w.heap.size ss _ (HE.out.below hb1)).mono ?_
        rw [HSM.out]
        rintro e w1' ⟨rfl, rfl⟩
        go_wp2_with fail
        refine (first_any fr _ _ _ ss _ ((HE.out.below hb1).mono hb1.size) hf1 HS.out (HV.out.below HV.out.2 hb1).1 (HV.out.below HV.out.2 hb1).2 _ HM.out).mono ?_
        rintro e w2 ⟨rfl, hb2⟩
        have hb3 := hb1.trans (hb2.mono hb1.size)
        go_wp2_with fail
        refine (refFirst_any fr _ _ _ ss _ ((HE.out.below hb3).mono hb3.size) hf1 HS.out _ HM.out).mono ?_
        rintro e w3 ⟨rfl, hb4⟩
        have hb5 := hb3.trans (hb4.mono hb3.size)
        clear hb1 hb2 hb3 hb4
        simp only [resN, resE, resR, Option.getD]
        go_wp2_with fail
        refine (halves_any k _ HK.out).mono ?_
        rintro e w6 ⟨rfl, hb6⟩
        have hb7 := hb5.trans (hb6.mono hb5.size)
        go_wp2_with fail
        refine (refHalf_any _ k _ HK.out (by decide)).mono ?_
        rw [E1.out]
        rintro e w8 ⟨rfl, hb8⟩
        have hb9 := hb7.trans (hb8.mono hb7.size)
        go_wp2_with fail
        refine (refHalf_any _ k _ HK.out (by decide)).mono ?_
        rw [E2.out]
        rintro e w10 ⟨rfl, hb10⟩
        have hb11 := hb9.trans (hb10.mono hb9.size)
        go_wp2_with fail
        refine (of_any k _ HK.out).mono ?_
        rintro e w12 ⟨rfl, hb12⟩
        have hb13 := hb11.trans (hb12.mono hb11.size)
        go_wp2_with fail
        refine (refOf_any k _ HK.out).mono ?_
        rintro e w14 ⟨rfl, hb14⟩
        go_wp2_with fail
        go_ret
        exact ⟨ret_bool (by simp), hb13.trans (hb14.mono hb13.size)⟩
      | some q =>
        go_enter Try.func4, Try.ntmps4
        go_wp2_with fail
        refine (anchor_any _).mono ?_
        rintro e w1 ⟨rfl, hb1⟩
        go_wp2_with fail
        refine (small_any _ _ _ w.heap.size ss _ (HE.out.below hb1)).mono ?_
        rw [HSM.out]
        rintro e w1' ⟨rfl, rfl⟩
        go_wp2_with fail
        refine (first_any fr _ _ _ ss _ ((HE.out.below hb1).mono hb1.size) hf1 HS.out (HV.out.below HV.out.2 hb1).1 (HV.out.below HV.out.2 hb1).2 _ HM.out).mono ?_
        rintro e w2 ⟨rfl, hb2⟩
        have hb3 := hb1.trans (hb2.mono hb1.size)
        go_wp2_with fail
        refine (refFirst_any fr _ _ _ ss _ ((HE.out.below hb3).mono hb3.size) hf1 HS.out _ HM.out).mono ?_
        rintro e w3 ⟨rfl, hb4⟩
        have hb5 := hb3.trans (hb4.mono hb3.size)
        clear hb1 hb2 hb3 hb4
        simp only [resN, resE, resR, Option.getD]
        go_wp2_with fail
        refine (halves_any k _ HK.out).mono ?_
        rintro e w6 ⟨rfl, hb6⟩
        have hb7 := hb5.trans (hb6.mono hb5.size)
        go_wp2_with fail
        refine (refHalf_any _ k _ HK.out (by decide)).mono ?_
        rw [E1.out]
        rintro e w8 ⟨rfl, hb8⟩
        have hb9 := hb7.trans (hb8.mono hb7.size)
        go_wp2_with fail
        refine (refHalf_any _ k _ HK.out (by decide)).mono ?_
        rw [E2.out]
        rintro e w10 ⟨rfl, hb10⟩
        have hb11 := hb9.trans (hb10.mono hb9.size)
        go_wp2_with fail
        refine (of_any k _ HK.out).mono ?_
        rintro e w12 ⟨rfl, hb12⟩
        have hb13 := hb11.trans (hb12.mono hb11.size)
        go_wp2_with fail
        refine (refOf_any k _ HK.out).mono ?_
        rintro e w14 ⟨rfl, hb14⟩
        go_wp2_with fail
        go_ret
        exact ⟨ret_bool (by simp), hb13.trans (hb14.mono hb13.size)⟩
    · by_cases hx1 : x < 0
      · have t1 : decide (x < 0) = true := by simpa using hx1
        clear hx hx1
        cases m with
        | none =>
          go_enter Try.func4, Try.ntmps4
          go_wp2_with fail
          refine (anchor_any _).mono ?_
          rintro e w1 ⟨rfl, hb1⟩
          go_wp2_with fail
          refine (small_any _ _ _ w.heap.size ss _ (HE.out.below hb1)).mono ?_
          rw [HSM.out]
          rintro e w1' ⟨rfl, rfl⟩
          go_wp2_with fail
          refine (first_any fr _ _ _ ss _ ((HE.out.below hb1).mono hb1.size) hf1 HS.out (HV.out.below HV.out.2 hb1).1 (HV.out.below HV.out.2 hb1).2 _ HM.out).mono ?_
          rintro e w2 ⟨rfl, hb2⟩
          have hb3 := hb1.trans (hb2.mono hb1.size)
          go_wp2_with fail
          refine (refFirst_any fr _ _ _ ss _ ((HE.out.below hb3).mono hb3.size) hf1 HS.out _ HM.out).mono ?_
          rintro e w3 ⟨rfl, hb4⟩
          have hb5 := hb3.trans (hb4.mono hb3.size)
          clear hb1 hb2 hb3 hb4
          simp only [resN, resE, resR, Option.getD]
          go_wp2_with fail
          go_ret
          exact ⟨rfl, hb5⟩
        | some q =>
          go_enter Try.func4, Try.ntmps4
          go_wp2_with fail
          refine (anchor_any _).mono ?_
          rintro e w1 ⟨rfl, hb1⟩
          go_wp2_with fail
          refine (small_any _ _ _ w.heap.size ss _ (HE.out.below hb1)).mono ?_
          rw [HSM.out]
          rintro e w1' ⟨rfl, rfl⟩
          go_wp2_with fail
          refine (first_any fr _ _ _ ss _ ((HE.out.below hb1).mono hb1.size) hf1 HS.out (HV.out.below HV.out.2 hb1).1 (HV.out.below HV.out.2 hb1).2 _ HM.out).mono ?_
          rintro e w2 ⟨rfl, hb2⟩
          have hb3 := hb1.trans (hb2.mono hb1.size)
          go_wp2_with fail
          refine (refFirst_any fr _ _ _ ss _ ((HE.out.below hb3).mono hb3.size) hf1 HS.out _ HM.out).mono ?_
          rintro e w3 ⟨rfl, hb4⟩
          have hb5 := hb3.trans (hb4.mono hb3.size)
          clear hb1 hb2 hb3 hb4
          simp only [resN, resE, resR, Option.getD]
          go_wp2_with fail
          go_ret
          exact ⟨rfl, hb5⟩
      · have t1 : decide (x < 0) = false := by simpa using hx1
        have t2 : decide (x ≥ 11881376) = true := by simp; omega
        clear hx hx1
        cases m with
        | none =>
          go_enter Try.func4, Try.ntmps4
          go_wp2_with fail
          refine (anchor_any _).mono ?_
          rintro e w1 ⟨rfl, hb1⟩
          go_wp2_with fail
          refine (small_any _ _ _ w.heap.size ss _ (HE.out.below hb1)).mono ?_
          rw [HSM.out]
          rintro e w1' ⟨rfl, rfl⟩
          go_wp2_with fail
          refine (first_any fr _ _ _ ss _ ((HE.out.below hb1).mono hb1.size) hf1 HS.out (HV.out.below HV.out.2 hb1).1 (HV.out.below HV.out.2 hb1).2 _ HM.out).mono ?_
          rintro e w2 ⟨rfl, hb2⟩
          have hb3 := hb1.trans (hb2.mono hb1.size)
          go_wp2_with fail
          refine (refFirst_any fr _ _ _ ss _ ((HE.out.below hb3).mono hb3.size) hf1 HS.out _ HM.out).mono ?_
          rintro e w3 ⟨rfl, hb4⟩
          have hb5 := hb3.trans (hb4.mono hb3.size)
          clear hb1 hb2 hb3 hb4
          simp only [resN, resE, resR, Option.getD]
          go_wp2_with fail
          go_ret
          exact ⟨rfl, hb5⟩
        | some q =>
          go_enter Try.func4, Try.ntmps4
          go_wp2_with fail
          refine (anchor_any _).mono ?_
          rintro e w1 ⟨rfl, hb1⟩
          go_wp2_with fail
          refine (small_any _ _ _ w.heap.size ss _ (HE.out.below hb1)).mono ?_
          rw [HSM.out]
          rintro e w1' ⟨rfl, rfl⟩
          go_wp2_with fail
          refine (first_any fr _ _ _ ss _ ((HE.out.below hb1).mono hb1.size) hf1 HS.out (HV.out.below HV.out.2 hb1).1 (HV.out.below HV.out.2 hb1).2 _ HM.out).mono ?_
          rintro e w2 ⟨rfl, hb2⟩
          have hb3 := hb1.trans (hb2.mono hb1.size)
          go_wp2_with fail
          refine (refFirst_any fr _ _ _ ss _ ((HE.out.below hb3).mono hb3.size) hf1 HS.out _ HM.out).mono ?_
          rintro e w3 ⟨rfl, hb4⟩
          have hb5 := hb3.trans (hb4.mono hb3.size)
          clear hb1 hb2 hb3 hb4
          simp only [resN, resE, resR, Option.getD]
          go_wp2_with fail
          go_ret
          exact ⟨rfl, hb5⟩
  · have hsm' : smallB ss = false := by simpa using hsm
    go_enter Try.func4, Try.ntmps4
    go_wp2_with fail
    refine (anchor_any _).mono ?_
    rintro e w1 ⟨rfl, hb1⟩
    go_wp2_with fail
    refine (small_any _ _ _ w.heap.size ss _ (HE.out.below hb1)).mono ?_
    rintro e w1' ⟨rfl, rfl⟩
    rw [hsm']
    go_wp2_with fail
    go_ret
    exact ⟨rfl, hb1⟩

end Go.Proofs.Ytkeinpifbiiodaa
