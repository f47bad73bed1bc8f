/-
  The walks of Dir, of the document's bare, last, Base and Dir, of the anchor, and of the statement PathSplits.
-/
import Derived.Test.YtoiknebhaggbgaaDoorP2
namespace Go.Proofs.YtoiknebhaggbgaaDoor
open Go.RowKit

theorem dir_any (s : ByteArray) (w : World) (hs : s.size ≤ 100000) :
    Calls Tryd.prog 10 #[.string s] w fun e w' => e = .returned (.string (S (dirL (L s)))) ∧ w' = w := by
  obtain ⟨t, ht⟩ : ∃ t, t = S (bareL (L s)) := ⟨_, rfl⟩
  have hlt : L t = bareL (L s) := by rw [ht]; rfl
  have hts : t.size ≤ s.size := by rw [ht, S_size]; exact bareL_len _
  have hdir : dirL (L s) = if L t = [47] then [47] else if lastL (L t) < 0 then [46] else bareL ((L t).take (lastL (L t) + 1).toNat) := by rw [dirL, hlt]
  have C : Hid (∀ w, Calls Tryd.prog 27 #[.string s] w fun e w' => e = .returned (.string t) ∧ w' = w) := Lib.hid fun w => by rw [ht]; exact bare_any s w hs
  obtain ⟨v, hv⟩ : ∃ v, v = lastL (L t) := ⟨_, rfl⟩
  have hvb := lastTo_lt (L t) (L t).length
  rw [show lastTo (L t) (L t).length = v from hv.symm, L_size] at hvb
  have C2 := Lib.hid (fun w => lastIndex_any t v w (by omega) hv)
  rw [← hv] at hdir
  clear ht hlt hv
  by_cases h1 : L t = [47]
  · have e1 : (t.toList == [47]) = true := by rw [toList_L, h1]; rfl
    have hr : (⟨#[47]⟩ : ByteArray) = S (dirL (L s)) := by rw [hdir, if_pos h1]; rfl
    rw [← hr]
    clear h1 hdir hr
    go_enter Tryd.func10, Tryd.ntmps10
    go_wp2_with fail
    refine (C.out _).mono ?_
    rintro e w1 ⟨rfl, rfl⟩
    go_wp2_with fail
    refine (C2.out _).mono ?_
    rintro e w1 ⟨rfl, rfl⟩
    go_wp2_with fail
    go_ret
    exact ⟨rfl, rfl⟩
  · have e1 : (t.toList == [47]) = false := by rw [toList_L]; simpa using h1
    by_cases h2 : v < 0
    · have hr : (⟨#[46]⟩ : ByteArray) = S (dirL (L s)) := by rw [hdir, if_neg h1, if_pos h2]; rfl
      rw [← hr]
      clear h1 hdir hr
      go_enter Tryd.func10, Tryd.ntmps10
      go_wp2_with fail
      refine (C.out _).mono ?_
      rintro e w1 ⟨rfl, rfl⟩
      go_wp2_with fail
      refine (C2.out _).mono ?_
      rintro e w1 ⟨rfl, rfl⟩
      go_wp2_with fail
      go_ret
      exact ⟨rfl, rfl⟩
    · obtain ⟨n, hn⟩ : ∃ n : Nat, v + 1 = (n : Int) := ⟨(v + 1).toNat, by omega⟩
      have hnt : n ≤ t.size := by omega
      have hr : S (bareL (L (t.extract 0 n))) = S (dirL (L s)) := by rw [S_extract_to, hdir, if_neg h1, if_neg h2, hn]; rfl
      have C3 := Lib.hid (fun w => bare_any (t.extract 0 n) w (by rw [S_extract_to, S_size, List.length_take]; omega))
      rw [← hr]
      clear h1 hdir hr
      go_enter Tryd.func10, Tryd.ntmps10
      go_wp2_with fail
      refine (C.out _).mono ?_
      rintro e w1 ⟨rfl, rfl⟩
      go_wp2_with fail
      refine (C2.out _).mono ?_
      rintro e w1 ⟨rfl, rfl⟩
      go_wp2_with fail
      refine (C3.out _).mono ?_
      rintro e w1 ⟨rfl, rfl⟩
      go_wp2_with fail
      go_ret
      exact ⟨rfl, rfl⟩

/-! ### the document's -/
theorem refBare_any (s : ByteArray) (w : World) (hs : s.size ≤ 100000) :
    Calls Tryd.prog 29 #[.string s] w fun e w' => e = .returned (.string (S (bareL (L s)))) ∧ w' = w := by
  go_enter Tryd.func29, Tryd.ntmps29
  go_wp2_with fail
  go_loop [3] (fun i => ∃ n : Nat, n ≤ s.size ∧ i = .int .i64 n ∧ cutTo (L s) n = cutTo (L s) (L s).length) (fun i => (intOf i).toNat)
  case atStart => exact ⟨s.size, Nat.le_refl _, rfl, rfl⟩
  case round =>
    obtain ⟨n, hn, rfl, hcut⟩ := hrel
    have HC := Lib.hid hcut
    clear hcut
    cases n with
    | zero =>
      have hr : ByteArray.empty = S (bareL (L s)) := by rw [bareL, ← HC.out]; rfl
      have HR := Lib.hid hr
      clear hr
      go_wp2_with fail
      go_ret
      exact ⟨by rw [← HR.out]; rfl, rfl⟩
    | succ m =>
      have i0 := run_idx (P := Tryd.prog) (k := .i64) Tryd.underlying9 s (m : Int) m rfl (by omega)
      obtain ⟨c, hc⟩ : ∃ c, c = (L s).getD m 0 := ⟨_, rfl⟩
      rw [← hc] at i0
      have HCC := Lib.hid hc
      clear hc
      by_cases hm : 0 < m ∧ c = 47
      · have hstep := cutTo_step (L s) m (by rw [← HCC.out]; exact hm)
        have HS := Lib.hid hstep
        obtain ⟨hm1, hm2⟩ := hm
        have et : (((c.toNat : Nat) : Int) == 47) = true := by rw [hm2]; rfl
        clear hstep hm2
        go_wp2_with fail
        go_round
        case rel => exact ⟨m, by omega, by go_num, by rw [← HC.out, HS.out]⟩
        case measure => simp [intOf]
      · have hstop := cutTo_stop (L s) m (by rw [← HCC.out]; exact hm)
        have hr : s.extract 0 (m + 1) = S (bareL (L s)) := by rw [S_extract_to, bareL, ← HC.out, hstop]
        have HR := Lib.hid hr
        clear hstop hr
        by_cases hm0 : 0 < m
        · have et : (((c.toNat : Nat) : Int) == 47) = false := by
            rw [beq_eq_false_iff_ne]
            intro h
            exact hm ⟨hm0, UInt8.toNat_inj.1 (by have : ((47 : UInt8).toNat : Int) = 47 := rfl; omega)⟩
          clear hm
          go_wp2_with fail
          go_ret
          exact ⟨by rw [← HR.out]; rfl, rfl⟩
        · clear hm
          obtain rfl : m = 0 := by omega
          go_wp2_with fail
          go_ret
          exact ⟨by rw [← HR.out]; rfl, rfl⟩

theorem refLast_any (s : ByteArray) (w : World) (hs : s.size ≤ 100000) :
    Calls Tryd.prog 30 #[.string s] w fun e w' => e = .returned (.int .i64 (lastL (L s))) ∧ w' = w := by
  go_enter Tryd.func30, Tryd.ntmps30
  go_wp2_with fail
  go_loop [3, 4] (fun a i => ∃ (k : Nat), k ≤ s.size ∧ a = .int .i64 (lastTo (L s) k) ∧ i = .int .i64 k) (fun _ i => s.size - (intOf i).toNat)
  case atStart => exact ⟨0, Nat.zero_le _, rfl, rfl⟩
  case round =>
    obtain ⟨k, hk, rfl, rfl⟩ := hrel
    by_cases hlt : k < s.size
    · have i0 := run_idx (P := Tryd.prog) (k := .i64) Tryd.underlying9 s (k : Int) k rfl hlt
      obtain ⟨c, hc⟩ : ∃ c, c = (L s).getD k 0 := ⟨_, rfl⟩
      rw [← hc] at i0
      obtain ⟨v, hv⟩ : ∃ v, v = lastTo (L s) k := ⟨_, rfl⟩
      rw [← hv]
      have HC := Lib.hid hc
      have HV := Lib.hid hv
      clear hc hv
      by_cases h47 : c = 47
      · have et : (((c.toNat : Nat) : Int) == 47) = true := by rw [h47]; rfl
        have hl := lastTo_yes (HC.out ▸ h47)
        have HL := Lib.hid hl
        clear h47 hl
        go_wp2_with fail
        go_round
        case rel => exact ⟨k + 1, by omega, by rw [HL.out], by go_num⟩
        case measure => simp [intOf]; omega
      · have et : (((c.toNat : Nat) : Int) == 47) = false := by
          rw [beq_eq_false_iff_ne]
          intro h
          exact h47 (UInt8.toNat_inj.1 (by have : ((47 : UInt8).toNat : Int) = 47 := rfl; omega))
        have hl := lastTo_no (HC.out ▸ h47)
        have HL := Lib.hid hl
        clear h47 hl
        go_wp2_with fail
        go_round
        case rel => exact ⟨k + 1, by omega, by rw [HL.out, HV.out], by go_num⟩
        case measure => simp [intOf]; omega
    · obtain rfl : k = s.size := by omega
      obtain ⟨v, hv⟩ : ∃ v, v = lastTo (L s) s.size := ⟨_, rfl⟩
      rw [← hv]
      have HV := Lib.hid hv
      clear hv
      go_wp2_with fail
      go_ret
      exact ⟨ret_int HV.out, rfl⟩

theorem refBase_any (s : ByteArray) (w : World) (hs : s.size ≤ 100000) :
    Calls Tryd.prog 9 #[.string s] w fun e w' => e = .returned (.string (S (baseL (L s)))) ∧ w' = w := by
  obtain ⟨t, ht⟩ : ∃ t, t = S (bareL (L s)) := ⟨_, rfl⟩
  have hlt : L t = bareL (L s) := by rw [ht]; rfl
  have hts : t.size ≤ s.size := by rw [ht, S_size]; exact bareL_len _
  have hbase : baseL (L s) = if L t = [47] then [47] else (L t).drop (lastL (L t) + 1).toNat := by rw [baseL, hlt]
  have C : Hid (∀ w, Calls Tryd.prog 29 #[.string s] w fun e w' => e = .returned (.string t) ∧ w' = w) := Lib.hid fun w => by rw [ht]; exact refBare_any s w hs
  obtain ⟨v, hv⟩ : ∃ v, v = lastL (L t) := ⟨_, rfl⟩
  have hvb := lastTo_lt (L t) (L t).length
  rw [show lastTo (L t) (L t).length = v from hv.symm, L_size] at hvb
  have C2 : Hid (∀ w, Calls Tryd.prog 30 #[.string t] w fun e w' => e = .returned (.int .i64 v) ∧ w' = w) := Lib.hid fun w => by rw [hv]; exact refLast_any t w (by omega)
  rw [← hv] at hbase
  clear ht hlt hv
  by_cases h2 : L t = [47]
  · have e2 : (t.toList == [47]) = true := by rw [toList_L, h2]; rfl
    have hr : t = S (baseL (L s)) := by rw [hbase, if_pos h2, ← S_L t, h2]
    rw [← hr]
    clear h2 hbase hr
    go_enter Tryd.func9, Tryd.ntmps9
    go_wp2_with fail
    refine (C.out _).mono ?_
    rintro e w1 ⟨rfl, rfl⟩
    go_wp2_with fail
    go_ret
    exact ⟨rfl, rfl⟩
  · have e2 : (t.toList == [47]) = false := by rw [toList_L]; simpa using h2
    obtain ⟨n, hn⟩ : ∃ n : Nat, v + 1 = (n : Int) := ⟨(v + 1).toNat, by omega⟩
    have hnt : n ≤ t.size := by omega
    have hr : t.extract n t.size = S (baseL (L s)) := by rw [S_extract_from, hbase, if_neg h2, hn]; rfl
    rw [← hr]
    clear h2 hbase hr
    go_enter Tryd.func9, Tryd.ntmps9
    go_wp2_with fail
    refine (C.out _).mono ?_
    rintro e w1 ⟨rfl, rfl⟩
    go_wp2_with fail
    refine (C2.out _).mono ?_
    rintro e w1 ⟨rfl, rfl⟩
    go_wp2_with fail
    go_ret
    exact ⟨rfl, rfl⟩

theorem refDir_any (s : ByteArray) (w : World) (hs : s.size ≤ 100000) :
    Calls Tryd.prog 11 #[.string s] w fun e w' => e = .returned (.string (S (dirL (L s)))) ∧ w' = w := by
  obtain ⟨t, ht⟩ : ∃ t, t = S (bareL (L s)) := ⟨_, rfl⟩
  have hlt : L t = bareL (L s) := by rw [ht]; rfl
  have hts : t.size ≤ s.size := by rw [ht, S_size]; exact bareL_len _
  have hdir : dirL (L s) = if L t = [47] then [47] else if lastL (L t) < 0 then [46] else bareL ((L t).take (lastL (L t) + 1).toNat) := by rw [dirL, hlt]
  have C : Hid (∀ w, Calls Tryd.prog 29 #[.string s] w fun e w' => e = .returned (.string t) ∧ w' = w) := Lib.hid fun w => by rw [ht]; exact refBare_any s w hs
  obtain ⟨v, hv⟩ : ∃ v, v = lastL (L t) := ⟨_, rfl⟩
  have hvb := lastTo_lt (L t) (L t).length
  rw [show lastTo (L t) (L t).length = v from hv.symm, L_size] at hvb
  have C2 : Hid (∀ w, Calls Tryd.prog 30 #[.string t] w fun e w' => e = .returned (.int .i64 v) ∧ w' = w) := Lib.hid fun w => by rw [hv]; exact refLast_any t w (by omega)
  rw [← hv] at hdir
  clear ht hlt hv
  by_cases h1 : L t = [47]
  · have e1 : (t.toList == [47]) = true := by rw [toList_L, h1]; rfl
    have hr : t = S (dirL (L s)) := by rw [hdir, if_pos h1, ← S_L t, h1]
    rw [← hr]
    clear h1 hdir hr
    go_enter Tryd.func11, Tryd.ntmps11
    go_wp2_with fail
    refine (C.out _).mono ?_
    rintro e w1 ⟨rfl, rfl⟩
    go_wp2_with fail
    go_ret
    exact ⟨rfl, rfl⟩
  · have e1 : (t.toList == [47]) = false := by rw [toList_L]; simpa using h1
    by_cases h2 : v < 0
    · have hr : (⟨#[46]⟩ : ByteArray) = S (dirL (L s)) := by rw [hdir, if_neg h1, if_pos h2]; rfl
      rw [← hr]
      clear h1 hdir hr
      go_enter Tryd.func11, Tryd.ntmps11
      go_wp2_with fail
      refine (C.out _).mono ?_
      rintro e w1 ⟨rfl, rfl⟩
      go_wp2_with fail
      refine (C2.out _).mono ?_
      rintro e w1 ⟨rfl, rfl⟩
      go_wp2_with fail
      go_ret
      exact ⟨rfl, rfl⟩
    · obtain ⟨n, hn⟩ : ∃ n : Nat, v + 1 = (n : Int) := ⟨(v + 1).toNat, by omega⟩
      have hnt : n ≤ t.size := by omega
      have hr : S (bareL (L (t.extract 0 n))) = S (dirL (L s)) := by rw [S_extract_to, hdir, if_neg h1, if_neg h2, hn]; rfl
      have C3 := Lib.hid (fun w => refBare_any (t.extract 0 n) w (by rw [S_extract_to, S_size, List.length_take]; omega))
      rw [← hr]
      clear h1 hdir hr
      go_enter Tryd.func11, Tryd.ntmps11
      go_wp2_with fail
      refine (C.out _).mono ?_
      rintro e w1 ⟨rfl, rfl⟩
      go_wp2_with fail
      refine (C2.out _).mono ?_
      rintro e w1 ⟨rfl, rfl⟩
      go_wp2_with fail
      refine (C3.out _).mono ?_
      rintro e w1 ⟨rfl, rfl⟩
      go_wp2_with fail
      go_ret
      exact ⟨rfl, rfl⟩

theorem anchor_any (w : World) : Calls Tryd.prog 7 #[] w fun e w' => e = .returned (.bool true) ∧ w' = w := by
  have C1 := Lib.hid (fun w => dir_any ⟨#[97, 47, 47, 98, 47]⟩ w (by decide))
  have C2 := Lib.hid (fun w => base_any ⟨#[97, 47, 47, 98, 47]⟩ w (by decide))
  go_enter Tryd.func7, Tryd.ntmps7
  go_wp2_with fail
  refine (C1.out _).mono ?_
  rw [show S (dirL (L ⟨#[97, 47, 47, 98, 47]⟩)) = ⟨#[97]⟩ by decide +kernel]
  rintro e w1 ⟨rfl, rfl⟩
  go_wp2_with fail
  refine (C2.out _).mono ?_
  rw [show S (baseL (L ⟨#[97, 47, 47, 98, 47]⟩)) = ⟨#[98]⟩ by decide +kernel]
  rintro e w1 ⟨rfl, rfl⟩
  go_wp2_with fail
  go_ret
  exact ⟨rfl, rfl⟩

theorem splits_any (s : ByteArray) (w : World) (hs0 : s.size ≤ maxLen) :
    Calls Tryd.prog 3 #[.string s] w fun e w' => e = .returned (.bool true) ∧ Below w.heap.size w w' := by
  unfold maxLen at hs0
  by_cases hs : s.size ≤ 5000
  · obtain ⟨t, ht⟩ : ∃ t, t = S (baseL (L s)) := ⟨_, rfl⟩
    obtain ⟨u, hu⟩ : ∃ u, u = S (dirL (L s)) := ⟨_, rfl⟩
    have C1 := Lib.hid (fun w => base_any s w (by omega))
    have C2 := Lib.hid (fun w => refBase_any s w (by omega))
    have C3 := Lib.hid (fun w => dir_any s w (by omega))
    have C4 := Lib.hid (fun w => refDir_any s w (by omega))
    rw [← ht] at C1 C2
    rw [← hu] at C3 C4
    clear ht hu
    go_enter Tryd.func3, Tryd.ntmps3
    go_wp2_with fail
    refine (anchor_any _).mono ?_
    rintro e w1 ⟨rfl, rfl⟩
    go_wp2_with fail
    refine (C1.out _).mono ?_
    rintro e w1 ⟨rfl, rfl⟩
    go_wp2_with fail
    refine (C2.out _).mono ?_
    rintro e w1 ⟨rfl, rfl⟩
    go_wp2_with fail
    refine (C3.out _).mono ?_
    rintro e w1 ⟨rfl, rfl⟩
    go_wp2_with fail
    refine (C4.out _).mono ?_
    rintro e w1 ⟨rfl, rfl⟩
    go_wp2_with fail
    go_ret
    exact ⟨ret_bool (by simp), Below.refl _ _⟩
  · go_enter Tryd.func3, Tryd.ntmps3
    go_wp2_with fail
    refine (anchor_any _).mono ?_
    rintro e w1 ⟨rfl, rfl⟩
    go_wp2_with fail
    go_ret
    exact ⟨rfl, Below.refl _ _⟩
end Go.Proofs.YtoiknebhaggbgaaDoor
