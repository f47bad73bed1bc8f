/-
  The walks of the paths' last part and of what stands ahead of it: the program's, and the document's.
-/
import Derived.Test.YtoiknebhaggbgaaDoorP1
import Derived.Test.YtoiknebhaggbgaaDoorShelf
namespace Go.Proofs.YtoiknebhaggbgaaDoor
open Go.RowKit

theorem isEmpty_L (s : ByteArray) : s.toList.isEmpty = (L s).isEmpty := by rw [toList_L]
theorem toList_S (l : List UInt8) : (S l).toList = l := by rw [toList_L, L_S]

theorem trimRight_any (s t : ByteArray) (w : World) (hs : s.size ≤ 100000) (ht : t = S (Lib.trimRightB (L s) 47)) :
    Calls Tryd.prog 37 #[.string s, .string ⟨#[47]⟩] w fun e w' => e = .returned (.string t) ∧ w' = w := by
  subst ht
  exact Tryd.strings_TrimRight_one s 47 (by decide) w (by omega)

theorem lastIndex_any (s : ByteArray) (v : Int) (w : World) (hs : s.size ≤ 100000) (hv : v = lastL (L s)) :
    Calls Tryd.prog 28 #[.string s, .int .u8 47] w fun e w' => e = .returned (.int .i64 v) ∧ w' = w := by
  subst hv
  rw [← lib_last_all]
  exact Tryd.strings_LastIndexByte s 47 (by omega) w

theorem bare_any (s : ByteArray) (w : World) (hs : s.size ≤ 100000) :
    Calls Tryd.prog 27 #[.string s] w fun e w' => e = .returned (.string (S (bareL (L s)))) ∧ w' = w := by
  obtain ⟨t, ht⟩ : ∃ t, t = S (Lib.trimRightB (L s) 47) := ⟨_, rfl⟩
  have hb := bare_trim (L s)
  have C := Lib.hid (fun w => trimRight_any s t w hs ht)
  by_cases h1 : Lib.trimRightB (L s) 47 = []
  · have e1 : t.toList.isEmpty = true := by rw [ht, toList_S, h1]; rfl
    by_cases h2 : L s = []
    · have e2 : s.toList.isEmpty = true := by rw [isEmpty_L, h2]; rfl
      rw [if_neg (by simp [h2])] at hb
      have hr : t = S (bareL (L s)) := by rw [ht, hb]
      rw [← hr]
      clear h1 h2 hb ht hr
      go_enter Tryd.func27, Tryd.ntmps27
      go_wp2_with fail
      refine (C.out _).mono ?_
      rintro e w1 ⟨rfl, rfl⟩
      go_wp2_with fail
      go_ret
      exact ⟨rfl, rfl⟩
    · have e2 : s.toList.isEmpty = false := by rw [isEmpty_L]; simpa using h2
      rw [if_pos ⟨h1, h2⟩] at hb
      rw [← hb]
      clear h1 h2 hb ht
      go_enter Tryd.func27, Tryd.ntmps27
      go_wp2_with fail
      refine (C.out _).mono ?_
      rintro e w1 ⟨rfl, rfl⟩
      go_wp2_with fail
      go_ret
      exact ⟨rfl, rfl⟩
  · have e1 : t.toList.isEmpty = false := by rw [ht, toList_S]; simpa using h1
    rw [if_neg (by simp [h1])] at hb
    have hr : t = S (bareL (L s)) := by rw [ht, hb]
    rw [← hr]
    clear h1 hb ht hr
    go_enter Tryd.func27, Tryd.ntmps27
    go_wp2_with fail
    refine (C.out _).mono ?_
    rintro e w1 ⟨rfl, rfl⟩
    go_wp2_with fail
    go_ret
    exact ⟨rfl, rfl⟩

theorem S_extract (s : ByteArray) (a b : Nat) : s.extract a b = S (((L s).drop a).take (b - a)) := by rw [← L_extract, S_L]
theorem S_extract_from (s : ByteArray) (a : Nat) : s.extract a s.size = S ((L s).drop a) := by
  rw [S_extract, List.take_of_length_le (by simp [L_size])]
theorem S_extract_to (s : ByteArray) (b : Nat) : s.extract 0 b = S ((L s).take b) := by rw [S_extract]; rfl

theorem base_any (s : ByteArray) (w : World) (hs : s.size ≤ 100000) :
    Calls Tryd.prog 8 #[.string s] w fun e w' => e = .returned (.string (S (baseL (L s)))) ∧ w' = w := by
  obtain ⟨t, ht⟩ : ∃ t, t = S (bareL (L s)) := ⟨_, rfl⟩
  have hlt : L t = bareL (L s) := by rw [ht]; rfl
  have hts : t.size ≤ s.size := by rw [ht, S_size]; exact bareL_len _
  have hbase : baseL (L s) = if L t = [47] then [47] else (L t).drop (lastL (L t) + 1).toNat := by rw [baseL, hlt]
  have C : Hid (∀ w, Calls Tryd.prog 27 #[.string s] w fun e w' => e = .returned (.string t) ∧ w' = w) := Lib.hid fun w => by rw [ht]; exact bare_any s w hs
  obtain ⟨v, hv⟩ : ∃ v, v = lastL (L t) := ⟨_, rfl⟩
  have hvb := lastTo_lt (L t) (L t).length
  rw [show lastTo (L t) (L t).length = v from hv.symm, L_size] at hvb
  have C2 := Lib.hid (fun w => lastIndex_any t v w (by omega) hv)
  clear ht hlt
  by_cases h1 : L t = []
  · have e1 : t.toList.isEmpty = true := by rw [isEmpty_L, h1]; rfl
    have hr : t = S (baseL (L s)) := by rw [hbase, h1]; rw [← S_L t, h1]; rfl
    rw [← hr]
    clear h1 hbase hr
    go_enter Tryd.func8, Tryd.ntmps8
    go_wp2_with fail
    refine (C.out _).mono ?_
    rintro e w1 ⟨rfl, rfl⟩
    go_wp2_with fail
    go_ret
    exact ⟨rfl, rfl⟩
  · have e1 : t.toList.isEmpty = false := by rw [isEmpty_L]; simpa using h1
    by_cases h2 : L t = [47]
    · have e2 : (t.toList == [47]) = true := by rw [toList_L, h2]; rfl
      have hr : t = S (baseL (L s)) := by rw [hbase, if_pos h2, ← S_L t, h2]
      rw [← hr]
      clear h1 h2 hbase hr
      go_enter Tryd.func8, Tryd.ntmps8
      go_wp2_with fail
      refine (C.out _).mono ?_
      rintro e w1 ⟨rfl, rfl⟩
      go_wp2_with fail
      go_ret
      exact ⟨rfl, rfl⟩
    · have e2 : (t.toList == [47]) = false := by rw [toList_L]; simpa using h2
      obtain ⟨n, hn⟩ : ∃ n : Nat, v + 1 = (n : Int) := ⟨(v + 1).toNat, by omega⟩
      have hnt : n ≤ t.size := by omega
      have hr : t.extract n t.size = S (baseL (L s)) := by rw [S_extract_from, hbase, if_neg h2, ← hv, hn]; rfl
      rw [← hr]
      clear h1 h2 hbase hr hv
      go_enter Tryd.func8, Tryd.ntmps8
      go_wp2_with fail
      refine (C.out _).mono ?_
      rintro e w1 ⟨rfl, rfl⟩
      go_wp2_with fail
      refine (C2.out _).mono ?_
      rintro e w1 ⟨rfl, rfl⟩
      go_wp2_with fail
      go_ret
      exact ⟨rfl, rfl⟩
end Go.Proofs.YtoiknebhaggbgaaDoor
