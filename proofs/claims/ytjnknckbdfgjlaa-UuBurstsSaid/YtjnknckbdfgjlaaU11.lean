/-
  Walks of the reference's Rest and Encode, and of uu.Encoded.
-/
import Derived.Test.YtjnknckbdfgjlaaU10
namespace Go.Proofs.Ytjnknckbdfgjlaa
open Go.RowKit

set_option maxHeartbeats 800000 in
theorem refRest_any (s : ByteArray) (w : World) (h1 : s.size ≤ 3000) :
    Calls Try.prog 17 #[.string s] w fun e w' => e = .returned (.string (S (restL (L s)))) ∧ Below w.heap.size w w' := by
  have hls : (L s).length = s.size := rfl
  have hrl := restL_len (L s).length (L s) (Nat.le_refl _)
  go_enter Try.func17, Try.ntmps17
  go_wp2_with fail
  go_loopw [3, 4] (fun v i wr => ∃ (k : Nat) (x : ByteArray), 45 * k ≤ s.size + 44 ∧ v = .string x ∧ i = .int .i64 ((45 * k : Nat) : Int) ∧ L x ++ restL ((L s).drop (45 * k)) = restL (L s) ∧ Below w.heap.size w wr) (fun _ i _ => s.size + 45 - (intOf i).toNat)
  case atStart => exact ⟨0, ⟨#[]⟩, by omega, rfl, rfl, rfl, Below.refl _ _⟩
  case round =>
    obtain ⟨k, x, hk, rfl, rfl, heq, hbw⟩ := hrel
    have hbs := hbw.size
    have hxs : x.size ≤ 20000 := by
      have := congrArg List.length heq
      have h3 : (L x).length = x.size := rfl
      simp only [List.length_append] at this
      omega
    have HE := Lib.hid heq
    clear heq
    by_cases hlt : 45 * k < s.size
    · obtain ⟨e, he⟩ : ∃ e : Nat, e = min s.size (45 * k + 45) := ⟨_, rfl⟩
      have h0 : (L s).drop (45 * k) ≠ [] := by
        intro h; have := congrArg List.length h; simp at this; omega
      have hpart : L (s.extract (45 * k) e) = ((L s).drop (45 * k)).take 45 := by
        rw [L_extract]
        by_cases h : s.size ≤ 45 * k + 45
        · rw [List.take_of_length_le (by simp; omega), List.take_of_length_le (by simp; omega)]
        · rw [show e - 45 * k = 45 by omega]
      have hfin : ∀ r : ByteArray, r = S (lineL (L (s.extract (45 * k) e))) → L (x ++ r) ++ restL ((L s).drop (45 * (k + 1))) = restL (L s) := by
        intro r hr
        rw [← HE.out, restL_cons h0, hr, L_append, L_S, hpart, List.drop_drop, List.append_assoc]; rfl
      have hps : (s.extract (45 * k) e).size ≤ 45 := by
        have := congrArg List.length hpart
        rw [L_size, List.length_take] at this; omega
      have HPS := Lib.hid hps
      obtain ⟨r, hr⟩ : ∃ r, r = S (lineL (L (s.extract (45 * k) e))) := ⟨_, rfl⟩
      have hre := hfin r hr
      have hrs : r.size ≤ 62 := by rw [hr, S_size, lineL_len, L_size]; omega
      have HRR := Lib.hid hr
      have HR := Lib.hid hre
      clear hr hre
      by_cases hc : s.size < 45 * k + 45
      all_goals
        obtain rfl : e = _ := he.trans (by first | exact Nat.min_eq_left (by omega) | exact Nat.min_eq_right (by omega))
        clear h0 hpart hfin hps he
        go_wp2_with fail
        refine (refLine_any _ _ HPS.out).mono ?_
        rintro e w3 ⟨rfl, hb3⟩
        rw [← HRR.out]
        go_wp2_with fail
        go_roundw
        case rel => exact ⟨k + 1, x ++ r, by omega, rfl, by go_num, HR.out, hbw.trans (hb3.mono hbs)⟩
        case measure => simp [intOf]; omega
    · have hd : (L s).drop (45 * k) = [] := List.drop_of_length_le (by omega)
      have hfin : ∀ r : ByteArray, r = S (lineL (L ⟨#[]⟩)) → x ++ r ++ ⟨#[101, 110, 100, 10]⟩ = S (restL (L s)) := by
        intro r hr
        apply L_inj
        rw [L_S, ← HE.out, hd, restL_nil, hr, L_append, L_append, L_S, List.append_assoc]; rfl
      have HF := Lib.hid hfin
      clear hd hfin
      go_wp2_with fail
      refine (refLine_any _ _ (by simp)).mono ?_
      rintro e w3 ⟨rfl, hb3⟩
      obtain ⟨r, hr⟩ : ∃ r, r = S (lineL (L ⟨#[]⟩)) := ⟨_, rfl⟩
      have hrs : r.size = 2 := by rw [hr]; rfl
      rw [← hr]
      have hre := HF.out r hr
      have HR := Lib.hid hre
      clear hr hre
      go_wp2_with fail
      go_ret
      exact ⟨ret_string HR.out, hbw.trans (hb3.mono hbs)⟩

/-- What the reference's Encode answers. -/
def encV (m : Int) (name s : List UInt8) : Value :=
  if (decide (0 ≤ m) && decide (m ≤ 4095)) = false then .tuple #[.string ⟨#[]⟩, .int .i64 10]
  else if nameB name = false then .tuple #[.string ⟨#[]⟩, .int .i64 11]
  else .tuple #[.string (S (headL m.toNat name ++ restL s)), .int .i64 0]

set_option maxHeartbeats 800000 in
theorem refEncode_any (m : Int) (name s : ByteArray) (w : World) (h1 : s.size ≤ 3000) (h2 : name.size ≤ maxLen) :
    Calls Try.prog 15 #[.int .i64 m, .string name, .string s] w fun e w' => e = .returned (encV m (L name) (L s)) ∧ Below w.heap.size w w' := by
  by_cases hm0 : 0 ≤ m
  · by_cases hm1 : m ≤ 4095
    · obtain ⟨n, rfl⟩ := Int.eq_ofNat_of_zero_le hm0
      have hin : (decide (0 ≤ (n : Int)) && decide ((n : Int) ≤ 4095)) = true := by simp; omega
      have hn : n ≤ 4095 := by omega
      cases hr : rightB (L name)
      · have hv : encV n (L name) (L s) = .tuple #[.string ⟨#[]⟩, .int .i64 11] := by rw [encV, hin, nameB, hr]; rfl
        have HV := Lib.hid hv
        have HR := Lib.hid hr
        have H2 := Lib.hid h2
        clear hv hr hin h2
        go_enter Try.func15, Try.ntmps15
        go_wp2_with fail
        refine (refRight_any name _ H2.out).mono ?_
        rw [HR.out]
        rintro e w' ⟨rfl, rfl⟩
        go_wp2_with fail
        go_ret2
        exact ⟨by rw [HV.out]; rfl, Below.refl _ _⟩
      · cases h10 : hasB (L name) 10
        · have hv : encV n (L name) (L s) = .tuple #[.string (S (headL n (L name) ++ restL (L s))), .int .i64 0] := by
            have : (L name).contains 10 = false := h10
            rw [encV, hin, nameB, hr, this]; rfl
          have hnl : name.size ≤ 4095 := by
            simp only [rightB, Bool.and_eq_true, decide_eq_true_eq] at hr
            exact hr.1.2
          have HV := Lib.hid hv
          have HR := Lib.hid hr
          have H2 := Lib.hid h2
          have H10 := Lib.hid h10
          clear hv hr hin h2 h10
          go_enter Try.func15, Try.ntmps15
          go_wp2_with fail
          refine (refRight_any name _ H2.out).mono ?_
          rw [HR.out]
          rintro e w' ⟨rfl, rfl⟩
          go_wp2_with fail
          refine (newline_any name _ H2.out).mono ?_
          rw [H10.out]
          rintro e w' ⟨rfl, rfl⟩
          go_wp2_with fail
          refine (digits3_any n _ hn).mono ?_
          rintro e w1 ⟨rfl, hb1⟩
          obtain ⟨q, hq⟩ : ∃ q, q = S (octL n).tail := ⟨_, rfl⟩
          have hq3 : q.size = 3 := by rw [hq]; rfl
          rw [← hq]
          have HQ := Lib.hid hq
          clear hq
          go_wp2_with fail
          refine (refRest_any s _ h1).mono ?_
          rintro e w2 ⟨rfl, hb2⟩
          obtain ⟨r, hr⟩ : ∃ r, r = S (restL (L s)) := ⟨_, rfl⟩
          have hrs : r.size ≤ 20000 := by
            have h3 := restL_len (L s).length (L s) (Nat.le_refl _)
            have hls : (L s).length = s.size := rfl
            rw [hr, S_size]; omega
          rw [← hr]
          have HRR := Lib.hid hr
          clear hr
          go_wp2_with fail
          go_ret2
          refine ⟨?_, hb1.trans (hb2.mono hb1.size)⟩
          rw [HV.out]
          have : ⟨#[98, 101, 103, 105, 110, 32]⟩ ++ q ++ ⟨#[32]⟩ ++ name ++ ⟨#[10]⟩ ++ r = S (headL n (L name) ++ restL (L s)) := by
            apply L_inj
            simp only [L_append, HQ.out, HRR.out, L_S, headL, L_mk]
          rw [← this]; rfl
        · have hv : encV n (L name) (L s) = .tuple #[.string ⟨#[]⟩, .int .i64 11] := by
            have : (L name).contains 10 = true := h10
            rw [encV, hin, nameB, hr, this]; rfl
          have HV := Lib.hid hv
          have HR := Lib.hid hr
          have H2 := Lib.hid h2
          have H10 := Lib.hid h10
          clear hv hr hin h2 h10
          go_enter Try.func15, Try.ntmps15
          go_wp2_with fail
          refine (refRight_any name _ H2.out).mono ?_
          rw [HR.out]
          rintro e w' ⟨rfl, rfl⟩
          go_wp2_with fail
          refine (newline_any name _ H2.out).mono ?_
          rw [H10.out]
          rintro e w' ⟨rfl, rfl⟩
          go_wp2_with fail
          go_ret2
          exact ⟨by rw [HV.out]; rfl, Below.refl _ _⟩
    · have hv : encV m (L name) (L s) = .tuple #[.string ⟨#[]⟩, .int .i64 10] := by rw [encV, if_pos (by simp; omega)]
      have HV := Lib.hid hv
      clear hv
      go_enter Try.func15, Try.ntmps15
      go_wp2_with fail
      go_ret2
      exact ⟨by rw [HV.out]; rfl, Below.refl _ _⟩
  · have hv : encV m (L name) (L s) = .tuple #[.string ⟨#[]⟩, .int .i64 10] := by rw [encV, if_pos (by simp; omega)]
    have HV := Lib.hid hv
    clear hv
    go_enter Try.func15, Try.ntmps15
    go_wp2_with fail
    go_ret2
    exact ⟨by rw [HV.out]; rfl, Below.refl _ _⟩
end Go.Proofs.Ytjnknckbdfgjlaa
