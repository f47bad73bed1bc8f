/-
  The walks of the paths' last part and of what stands ahead of it: the program's, and the document's.
-/
import Derived.Test.YtdelgbkllnccoaaDoorP1
import Derived.Test.YtdelgbkllnccoaaDoorShelf
namespace Go.Proofs.YtdelgbkllnccoaaDoor
open Go.RowKit

theorem isEmpty_L (s : ByteArray) : s.toList.isEmpty = (L s).isEmpty := by rw [toList_L]
theorem toList_S (l : List UInt8) : (S l).toList = l := by rw [toList_L, L_S]

theorem trimRight_any (s t : ByteArray) (w : World) (hs : s.size ≤ 100000) (ht : t = S (Lib.trimRightB (L s) 47)) :
    Calls Tryd.prog 53 #[.string s, .string ⟨#[47]⟩] w fun e w' => e = .returned (.string t) ∧ w' = w := by
  subst ht
  exact Tryd.strings_TrimRight_one s 47 (by decide) w (by omega)

theorem lastIndex_any (s : ByteArray) (v : Int) (w : World) (hs : s.size ≤ 100000) (hv : v = lastL (L s)) :
    Calls Tryd.prog 44 #[.string s, .int .u8 47] w fun e w' => e = .returned (.int .i64 v) ∧ w' = w := by
  subst hv
  rw [← lib_last_all]
  exact Tryd.strings_LastIndexByte s 47 (by omega) w

theorem bare_any (s : ByteArray) (w : World) (hs : s.size ≤ 100000) :
    Calls Tryd.prog 43 #[.string s] w fun e w' => e = .returned (.string (S (bareL (L s)))) ∧ w' = w := by
  obtain ⟨t, ht⟩ : ∃ t, t = S (Lib.trimRightB (L s) 47) := ⟨_, rfl⟩
  have hb := bare_trim (L s)
  have C := Lib.hid (fun w => trimRight_any s t w hs ht)
  by_cases h1 : Lib.trimRightB (L s) 47 = []
  · have e1 : t.toList.isEmpty = true := by rw [ht, toList_S, h1]; rfl
    by_cases h2 : L s = []
    · have e2 : s.toList.isEmpty = true := by rw [isEmpty_L, h2]; rfl
      rw [if_neg (by simp [h2])] at hb
      have hr : t = S (bareL (L s)) := by rw [ht, hb]
      rw [← hr]
      clear h1 h2 hb ht hr
      go_enter Tryd.func43, Tryd.ntmps43
      go_wp2_with fail
      refine (C.out _).mono ?_
      rintro e w1 ⟨rfl, rfl⟩
      go_wp2_with fail
      go_ret
      exact ⟨rfl, rfl⟩
    · have e2 : s.toList.isEmpty = false := by rw [isEmpty_L]; simpa using h2
      rw [if_pos ⟨h1, h2⟩] at hb
      rw [← hb]
      clear h1 h2 hb ht
      go_enter Tryd.func43, Tryd.ntmps43
      go_wp2_with fail
      refine (C.out _).mono ?_
      rintro e w1 ⟨rfl, rfl⟩
      go_wp2_with fail
      go_ret
      exact ⟨rfl, rfl⟩
  · have e1 : t.toList.isEmpty = false := by rw [ht, toList_S]; simpa using h1
    rw [if_neg (by simp [h1])] at hb
    have hr : t = S (bareL (L s)) := by rw [ht, hb]
    rw [← hr]
    clear h1 hb ht hr
    go_enter Tryd.func43, Tryd.ntmps43
    go_wp2_with fail
    refine (C.out _).mono ?_
    rintro e w1 ⟨rfl, rfl⟩
    go_wp2_with fail
    go_ret
    exact ⟨rfl, rfl⟩

theorem S_extract (s : ByteArray) (a b : Nat) : s.extract a b = S (((L s).drop a).take (b - a)) := by rw [← L_extract, S_L]
theorem S_extract_from (s : ByteArray) (a : Nat) : s.extract a s.size = S ((L s).drop a) := by
  rw [S_extract, List.take_of_length_le (by simp [L_size])]
theorem S_extract_to (s : ByteArray) (b : Nat) : s.extract 0 b = S ((L s).take b) := by rw [S_extract]; rfl

end Go.Proofs.YtdelgbkllnccoaaDoor
