/-
  The document's walk of a clause, step by step.
-/
import Derived.Test.YtbfplannbhafeaaDoorM16
namespace Go.Proofs.YtbfplannbhafeaaDoor
open Go.RowKit

theorem S_one (s : ByteArray) (k : Nat) {x : UInt8} {t : List UInt8} (hd : (L s).drop k = x :: t) : s.extract k (k + 1) = S [x] := by
  rw [S_extract, hd, show k + 1 - k = 1 by omega]; rfl
theorem drop_at {s : ByteArray} {k : Nat} (hk : k < s.size) : ∃ x, (L s).drop k = x :: (L s).drop (k + 1) ∧ (L s).getD k 0 = x := ⟨_, drop_getD _ hk, rfl⟩

theorem S_grow97 (q : List UInt8) (x : UInt8) : S q ++ S [x] ++ ⟨#[117, 103, 111]⟩ = S (q ++ [x] ++ [117, 103, 111]) := by
  rw [S_append]; exact S_append _ [117, 103, 111]

set_option maxHeartbeats 4000000 in
set_option maxRecDepth 100000 in
theorem clauseRef_any (s : ByteArray) (m : Nat) (dir : Bool) (mask : Nat) (w : World) (hs : s.size ≤ 300) (hm : m < 4096) (hk : mask < 4096) (R : Option Nat) (hR : clauseL dir mask (L s) m = R) :
    Calls Tryd.prog 23 #[.string s, .int .i64 m, .bool dir, .int .i64 mask] w fun e w' => e = .returned (actV R) ∧ w' = w := by
  obtain ⟨C, hC⟩ : ∃ C, C = ((L s).takeWhile isWho).foldl Who.add Who.none := ⟨_, rfl⟩
  obtain ⟨D, hD⟩ : ∃ D, D = (L s).dropWhile isWho := ⟨_, rfl⟩
  obtain ⟨nm, hnm⟩ : ∃ nm, nm = namedOf (L s) := ⟨_, rfl⟩
  have h0 := Seen.start (L s)
  rw [← hC, ← hD, ← hnm] at h0
  have hRR : R = if D = [] then none else actL (if nm then C else Who.all) nm dir mask D m := by
    rw [← hR, clauseL, ← hD, ← hnm]
    congr 2
    rw [whoOf, hnm, namedOf, hC]
    by_cases he : (L s).takeWhile isWho = []
    · rw [if_pos he, he]; rfl
    · rw [if_neg he]
      cases hh : (L s).takeWhile isWho with
      | nil => exact absurd hh he
      | cons => rfl
  have H0 := Lib.hid h0
  have HR := Lib.hid hRR
  have HM := Lib.hid hm
  clear hC hD hnm h0 hRR hR hm
  go_enter Tryd.func23, Tryd.ntmps23
  go_wp2_with fail
  go_loop [10, 11] (fun wh i => ∃ (k : Nat) (q : List UInt8) (c : Who), k ≤ s.size ∧ i = .int .i64 k ∧ wh = .string (S q) ∧ Seen (L s) q c C D nm k) (fun _ i => s.size - (intOf i).toNat)
  case atStart => exact ⟨0, [], Who.none, by omega, rfl, rfl, H0.out⟩
  case round =>
    obtain ⟨k, q, c, hks, rfl, rfl, hseen⟩ := hrel
    have hq4 : (S q).size ≤ 4 * k := hseen.len
    have HSE := Lib.hid hseen
    clear hseen
    by_cases hlt : k < s.size
    · obtain ⟨x, hd, hx⟩ := drop_at hlt
      have i0 := run_idx (P := Tryd.prog) (k := .i64) Tryd.underlying9 s (k : Int) k rfl hlt
      rw [hx] at i0
      obtain ⟨bw, hbw⟩ : ∃ b, isWho x = b := ⟨_, rfl⟩
      have CW := Lib.hid (fun w => in_any ⟨#[117, 103, 111, 97]⟩ x bw w (by decide) (by rw [has_who, hbw]))
      cases bw with
      | true =>
        have hex := S_one s k hd
        have hsz1 : (S [x]).size = 1 := rfl
        have HST := Lib.hid (HSE.out.step hd hbw)
        by_cases h97 : x = 97
        · have HG : Hid (grow q x = q ++ [x] ++ [117, 103, 111]) := Lib.hid (by rw [grow, if_pos h97])
          have h97' : (((x.toNat : Nat) : Int) == 97) = true := by rw [h97]; rfl
          clear hd hx hbw h97
          go_wp2_with (go_at_call 30; refine (CW.out _).mono ?_; rintro e w' ⟨rfl, rfl⟩)
          go_round
          case rel => exact ⟨k + 1, _, _, by omega, by go_num, (congrArg Value.string (S_grow97 q x)).trans (by rw [HG.out]), HST.out⟩
          case measure => simp [intOf]; omega
        · have HG : Hid (grow q x = q ++ [x]) := Lib.hid (by rw [grow, if_neg h97])
          have h97' : (((x.toNat : Nat) : Int) == 97) = false := ne_byte h97
          clear hd hx hbw h97
          go_wp2_with (go_at_call 30; refine (CW.out _).mono ?_; rintro e w' ⟨rfl, rfl⟩)
          go_round
          case rel => exact ⟨k + 1, _, _, by omega, by go_num, (congrArg Value.string (S_append q [x])).trans (by rw [HG.out]), HST.out⟩
          case measure => simp [intOf]; omega
      | false =>
        obtain ⟨rfl, hD, hnm⟩ := HSE.out.done (.inr ⟨x, _, hd, hbw⟩)
        have hdne : D ≠ [] := by rw [hD, hd]; simp
        have HR2 : Hid (R = actL (if nm then C else Who.all) nm dir mask ((L s).drop k) m) := Lib.hid (by rw [HR.out, if_neg hdne, hD])
        have hIs := HSE.out.is
        have hkne : ((k : Int) == (s.size : Int)) = false := by rw [beq_eq_false_iff_ne]; omega
        clear hd hx hbw hD hdne
        cases nm with
        | false =>
          have hq0 : (S q).toList.isEmpty = true := by
            rw [toList_L, L_S]
            cases q with
            | nil => rfl
            | cons => simp at hnm
          clear hIs hnm
          go_wp2_with (go_at_call 30; refine (CW.out _).mono ?_; rintro e w' ⟨rfl, rfl⟩)
          clear i0
          have HIS : Hid (WhoIs [117, 103, 111] Who.all) := Lib.hid whoIs_all
          have hqs : (S [117, 103, 111]).size ≤ 1204 := by decide
          go_loop [1, 11] (fun mm i => ∃ (j n : Nat), j ≤ s.size ∧ i = .int .i64 j ∧ mm = .int .i64 n ∧ n < 4096 ∧ R = actL Who.all false dir mask ((L s).drop j) n) (fun _ i => s.size - (intOf i).toNat)
          case atStart => exact ⟨k, m, by omega, rfl, rfl, HM.out, HR2.out⟩
          case round =>
            obtain ⟨j, n, hj, rfl, rfl, hn, hr⟩ := hrel
            have HN := Lib.hid hn
            clear hn
            by_cases hlt2 : j < s.size
            · obtain ⟨y, hd, hy⟩ := drop_at hlt2
              have i1 := run_idx (P := Tryd.prog) (k := .i64) Tryd.underlying9 s (j : Int) j rfl hlt2
              rw [hy] at i1
              rw [hd] at hr
              obtain ⟨bs, hbs⟩ : ∃ b, isSign y = b := ⟨_, rfl⟩
              have CS := Lib.hid (fun w => in_any ⟨#[43, 45, 61]⟩ y bs w (by decide) (by rw [has_sign, hbs]))
              cases bs with
              | false =>
                rw [actL_no hbs] at hr
                subst hr
                clear hd hy hbs
                go_wp2_with (go_at_call 30; refine (CS.out _).mono ?_; rintro e w' ⟨rfl, rfl⟩)
                go_ret2
                exact ⟨rfl, rfl⟩
              | true =>
                rw [actL_yes hbs] at hr
                obtain ⟨P, hP⟩ : ∃ P, P = ((L s).drop (j + 1)).takeWhile isLet := ⟨_, rfl⟩
                obtain ⟨DD, hDD⟩ : ∃ DD, DD = ((L s).drop (j + 1)).dropWhile isLet := ⟨_, rfl⟩
                have hl0 := Lets.start (L s) (j + 1)
                have hlets : ∀ z ∈ P, isLet z = true := by rw [hP]; exact takeWhile_all _ _
                rw [← hP, ← hDD] at hl0
                rw [← hP, ← hDD] at hr
                obtain ⟨N, hN⟩ : ∃ N, N = doSign y n (masked false mask (letsN Who.all (anyB dir n) 0 P)) (masked false mask (Who.own Who.all ||| Who.bes Who.all)) := ⟨_, rfl⟩
                rw [← hN] at hr
                have hN4 : N < 4096 := by rw [hN]; exact doSign_lt _ _ _ _ HN.out (masked_lt _ _ _ (letsN_lt _ _ _ _ (by omega)))
                have CA := Lib.hid (fun (hp : (S P).size ≤ 100000) w => actRef_any n y (S P) (S [117, 103, 111]) dir mask false Who.all w HN.out hk hp (Nat.le_trans hqs (by omega)) HIS.out hlets hbs N hN)
                have HL0 := Lib.hid hl0
                have HR3 := Lib.hid hr
                have HN4 := Lib.hid hN4
                clear hd hy hP hDD hl0 hlets hN hN4 hr hbs
                go_wp2_with (go_at_call 30; refine (CS.out _).mono ?_; rintro e w' ⟨rfl, rfl⟩)
                go_loop [11] (fun i => ∃ f : Nat, f ≤ s.size ∧ i = .int .i64 f ∧ Lets (L s) P DD (j + 1) f) (fun i => s.size - (intOf i).toNat)
                case atStart => exact ⟨j + 1, by omega, by go_num, HL0.out⟩
                case round =>
                  obtain ⟨f, hf, rfl, hle⟩ := hrel
                  have hjf := hle.le
                  have HLE := Lib.hid hle
                  clear hle i1
                  by_cases hlt3 : f < s.size
                  · obtain ⟨z, hd, hz⟩ := drop_at hlt3
                    have i2 := run_idx (P := Tryd.prog) (k := .i64) Tryd.underlying9 s (f : Int) f rfl hlt3
                    rw [hz] at i2
                    obtain ⟨bl, hbl⟩ : ∃ b, isLet z = b := ⟨_, rfl⟩
                    have CL := Lib.hid (fun w => in_any ⟨#[114, 119, 120, 88, 115, 116]⟩ z bl w (by decide) (by rw [has_let, hbl]))
                    cases bl with
                    | true =>
                      have HST := Lib.hid (HLE.out.step hd hbl)
                      clear hd hz hbl
                      go_wp2_with (go_at_call 30; refine (CL.out _).mono ?_; rintro e w' ⟨rfl, rfl⟩)
                      go_round
                      case rel => exact ⟨f + 1, by omega, by go_num, HST.out⟩
                      case measure => simp [intOf]; omega
                    | false =>
                      obtain ⟨hP, hDD⟩ := HLE.out.done (.inr ⟨z, _, hd, hbl⟩)
                      have hex : s.extract (j + 1) f = S P := by rw [S_extract, hP]
                      have hps : (S P).size ≤ 100000 := by rw [← hex]; exact Nat.le_trans (extract_len _ _ _) (by omega)
                      have CA2 := Lib.hid (CA.out hps)
                      have HR4 : Hid (R = actL Who.all false dir mask ((L s).drop f) N) := Lib.hid (by rw [HR3.out, hDD])
                      clear hP hDD
                      clear hd hz hbl
                      go_wp2_with (first | (go_at_call 30; refine (CL.out _).mono ?_; rintro e w' ⟨rfl, rfl⟩) | (go_at_call 31; refine (CA2.out _).mono ?_; rintro e w' ⟨rfl, rfl⟩))
                      go_round
                      case rel => exact ⟨f, N, by omega, rfl, rfl, HN4.out, HR4.out⟩
                      case measure => simp [intOf]; omega
                  · have hd0 : (L s).drop f = [] := List.drop_of_length_le (by rw [L_size]; omega)
                    obtain ⟨hP, hDD⟩ := HLE.out.done (.inl hd0)
                    have hex : s.extract (j + 1) f = S P := by rw [S_extract, hP]
                    have hps : (S P).size ≤ 100000 := by rw [← hex]; exact Nat.le_trans (extract_len _ _ _) (by omega)
                    have CA2 := Lib.hid (CA.out hps)
                    have HR4 : Hid (R = actL Who.all false dir mask ((L s).drop f) N) := Lib.hid (by rw [HR3.out, hDD])
                    clear hP hDD
                    clear hd0
                    go_wp2_with (go_at_call 31; refine (CA2.out _).mono ?_; rintro e w' ⟨rfl, rfl⟩)
                    go_round
                    case rel => exact ⟨f, N, by omega, rfl, rfl, HN4.out, HR4.out⟩
                    case measure => simp [intOf]; omega
            · obtain rfl : j = s.size := by omega
              have hR : R = some n := by rw [hr, List.drop_of_length_le (by rw [L_size]; omega), actL_nil]
              subst hR
              clear hr
              go_wp2_with fail
              go_ret2
              exact ⟨rfl, rfl⟩
        | true =>
          have hq0 : (S q).toList.isEmpty = false := by
            rw [toList_L, L_S]
            cases q with
            | nil => simp at hnm
            | cons => rfl
          have HIS0 := Lib.hid hIs
          clear hIs hnm
          go_wp2_with (go_at_call 30; refine (CW.out _).mono ?_; rintro e w' ⟨rfl, rfl⟩)
          clear i0
          have HIS : Hid (WhoIs q C) := Lib.hid HIS0.out
          have hqs : (S q).size ≤ 1204 := by omega
          go_loop [1, 11] (fun mm i => ∃ (j n : Nat), j ≤ s.size ∧ i = .int .i64 j ∧ mm = .int .i64 n ∧ n < 4096 ∧ R = actL C true dir mask ((L s).drop j) n) (fun _ i => s.size - (intOf i).toNat)
          case atStart => exact ⟨k, m, by omega, rfl, rfl, HM.out, HR2.out⟩
          case round =>
            obtain ⟨j, n, hj, rfl, rfl, hn, hr⟩ := hrel
            have HN := Lib.hid hn
            clear hn
            by_cases hlt2 : j < s.size
            · obtain ⟨y, hd, hy⟩ := drop_at hlt2
              have i1 := run_idx (P := Tryd.prog) (k := .i64) Tryd.underlying9 s (j : Int) j rfl hlt2
              rw [hy] at i1
              rw [hd] at hr
              obtain ⟨bs, hbs⟩ : ∃ b, isSign y = b := ⟨_, rfl⟩
              have CS := Lib.hid (fun w => in_any ⟨#[43, 45, 61]⟩ y bs w (by decide) (by rw [has_sign, hbs]))
              cases bs with
              | false =>
                rw [actL_no hbs] at hr
                subst hr
                clear hd hy hbs
                go_wp2_with (go_at_call 30; refine (CS.out _).mono ?_; rintro e w' ⟨rfl, rfl⟩)
                go_ret2
                exact ⟨rfl, rfl⟩
              | true =>
                rw [actL_yes hbs] at hr
                obtain ⟨P, hP⟩ : ∃ P, P = ((L s).drop (j + 1)).takeWhile isLet := ⟨_, rfl⟩
                obtain ⟨DD, hDD⟩ : ∃ DD, DD = ((L s).drop (j + 1)).dropWhile isLet := ⟨_, rfl⟩
                have hl0 := Lets.start (L s) (j + 1)
                have hlets : ∀ z ∈ P, isLet z = true := by rw [hP]; exact takeWhile_all _ _
                rw [← hP, ← hDD] at hl0
                rw [← hP, ← hDD] at hr
                obtain ⟨N, hN⟩ : ∃ N, N = doSign y n (masked true mask (letsN C (anyB dir n) 0 P)) (masked true mask (Who.own C ||| Who.bes C)) := ⟨_, rfl⟩
                rw [← hN] at hr
                have hN4 : N < 4096 := by rw [hN]; exact doSign_lt _ _ _ _ HN.out (masked_lt _ _ _ (letsN_lt _ _ _ _ (by omega)))
                have CA := Lib.hid (fun (hp : (S P).size ≤ 100000) w => actRef_any n y (S P) (S q) dir mask true C w HN.out hk hp (Nat.le_trans hqs (by omega)) HIS.out hlets hbs N hN)
                have HL0 := Lib.hid hl0
                have HR3 := Lib.hid hr
                have HN4 := Lib.hid hN4
                clear hd hy hP hDD hl0 hlets hN hN4 hr hbs
                go_wp2_with (go_at_call 30; refine (CS.out _).mono ?_; rintro e w' ⟨rfl, rfl⟩)
                go_loop [11] (fun i => ∃ f : Nat, f ≤ s.size ∧ i = .int .i64 f ∧ Lets (L s) P DD (j + 1) f) (fun i => s.size - (intOf i).toNat)
                case atStart => exact ⟨j + 1, by omega, by go_num, HL0.out⟩
                case round =>
                  obtain ⟨f, hf, rfl, hle⟩ := hrel
                  have hjf := hle.le
                  have HLE := Lib.hid hle
                  clear hle i1
                  by_cases hlt3 : f < s.size
                  · obtain ⟨z, hd, hz⟩ := drop_at hlt3
                    have i2 := run_idx (P := Tryd.prog) (k := .i64) Tryd.underlying9 s (f : Int) f rfl hlt3
                    rw [hz] at i2
                    obtain ⟨bl, hbl⟩ : ∃ b, isLet z = b := ⟨_, rfl⟩
                    have CL := Lib.hid (fun w => in_any ⟨#[114, 119, 120, 88, 115, 116]⟩ z bl w (by decide) (by rw [has_let, hbl]))
                    cases bl with
                    | true =>
                      have HST := Lib.hid (HLE.out.step hd hbl)
                      clear hd hz hbl
                      go_wp2_with (go_at_call 30; refine (CL.out _).mono ?_; rintro e w' ⟨rfl, rfl⟩)
                      go_round
                      case rel => exact ⟨f + 1, by omega, by go_num, HST.out⟩
                      case measure => simp [intOf]; omega
                    | false =>
                      obtain ⟨hP, hDD⟩ := HLE.out.done (.inr ⟨z, _, hd, hbl⟩)
                      have hex : s.extract (j + 1) f = S P := by rw [S_extract, hP]
                      have hps : (S P).size ≤ 100000 := by rw [← hex]; exact Nat.le_trans (extract_len _ _ _) (by omega)
                      have CA2 := Lib.hid (CA.out hps)
                      have HR4 : Hid (R = actL C true dir mask ((L s).drop f) N) := Lib.hid (by rw [HR3.out, hDD])
                      clear hP hDD
                      clear hd hz hbl
                      go_wp2_with (first | (go_at_call 30; refine (CL.out _).mono ?_; rintro e w' ⟨rfl, rfl⟩) | (go_at_call 31; refine (CA2.out _).mono ?_; rintro e w' ⟨rfl, rfl⟩))
                      go_round
                      case rel => exact ⟨f, N, by omega, rfl, rfl, HN4.out, HR4.out⟩
                      case measure => simp [intOf]; omega
                  · have hd0 : (L s).drop f = [] := List.drop_of_length_le (by rw [L_size]; omega)
                    obtain ⟨hP, hDD⟩ := HLE.out.done (.inl hd0)
                    have hex : s.extract (j + 1) f = S P := by rw [S_extract, hP]
                    have hps : (S P).size ≤ 100000 := by rw [← hex]; exact Nat.le_trans (extract_len _ _ _) (by omega)
                    have CA2 := Lib.hid (CA.out hps)
                    have HR4 : Hid (R = actL C true dir mask ((L s).drop f) N) := Lib.hid (by rw [HR3.out, hDD])
                    clear hP hDD
                    clear hd0
                    go_wp2_with (go_at_call 31; refine (CA2.out _).mono ?_; rintro e w' ⟨rfl, rfl⟩)
                    go_round
                    case rel => exact ⟨f, N, by omega, rfl, rfl, HN4.out, HR4.out⟩
                    case measure => simp [intOf]; omega
            · obtain rfl : j = s.size := by omega
              have hR : R = some n := by rw [hr, List.drop_of_length_le (by rw [L_size]; omega), actL_nil]
              subst hR
              clear hr
              go_wp2_with fail
              go_ret2
              exact ⟨rfl, rfl⟩
    · obtain rfl : k = s.size := by omega
      have hd0 : (L s).drop s.size = [] := List.drop_of_length_le (by rw [L_size]; omega)
      obtain ⟨rfl, hD, hnm⟩ := HSE.out.done (.inl hd0)
      have hR : R = none := by rw [HR.out, if_pos (by rw [hD, hd0])]
      subst hR
      clear hd0 hD hnm
      go_wp2_with fail
      all_goals
        go_ret2
        exact ⟨rfl, rfl⟩
end Go.Proofs.YtbfplannbhafeaaDoor
