/-
  The walks of Dir, of the document's bare, last, Base and Dir, of the anchor, and of the statement PathSplits.
-/
import Derived.Test.YtdelgbkllnccoaaDoorP2
namespace Go.Proofs.YtdelgbkllnccoaaDoor
open Go.RowKit

theorem dir_any (s : ByteArray) (w : World) (hs : s.size ≤ 100000) :
    Calls Tryd.prog 34 #[.string s] w fun e w' => e = .returned (.string (S (dirL (L s)))) ∧ w' = w := by
  obtain ⟨t, ht⟩ : ∃ t, t = S (bareL (L s)) := ⟨_, rfl⟩
  have hlt : L t = bareL (L s) := by rw [ht]; rfl
  have hts : t.size ≤ s.size := by rw [ht, S_size]; exact bareL_len _
  have hdir : dirL (L s) = if L t = [47] then [47] else if lastL (L t) < 0 then [46] else bareL ((L t).take (lastL (L t) + 1).toNat) := by rw [dirL, hlt]
  have C : Hid (∀ w, Calls Tryd.prog 43 #[.string s] w fun e w' => e = .returned (.string t) ∧ w' = w) := Lib.hid fun w => by rw [ht]; exact bare_any s w hs
  obtain ⟨v, hv⟩ : ∃ v, v = lastL (L t) := ⟨_, rfl⟩
  have hvb := lastTo_lt (L t) (L t).length
  rw [show lastTo (L t) (L t).length = v from hv.symm, L_size] at hvb
  have C2 := Lib.hid (fun w => lastIndex_any t v w (by omega) hv)
  rw [← hv] at hdir
  clear ht hlt hv
  by_cases h1 : L t = [47]
  · have e1 : (t.toList == [47]) = true := by rw [toList_L, h1]; rfl
    have hr : (⟨#[47]⟩ : ByteArray) = S (dirL (L s)) := by rw [hdir, if_pos h1]; rfl
    rw [← hr]
    clear h1 hdir hr
    go_enter Tryd.func34, Tryd.ntmps34
    go_wp2_with fail
    refine (C.out _).mono ?_
    rintro e w1 ⟨rfl, rfl⟩
    go_wp2_with fail
    refine (C2.out _).mono ?_
    rintro e w1 ⟨rfl, rfl⟩
    go_wp2_with fail
    go_ret
    exact ⟨rfl, rfl⟩
  · have e1 : (t.toList == [47]) = false := by rw [toList_L]; simpa using h1
    by_cases h2 : v < 0
    · have hr : (⟨#[46]⟩ : ByteArray) = S (dirL (L s)) := by rw [hdir, if_neg h1, if_pos h2]; rfl
      rw [← hr]
      clear h1 hdir hr
      go_enter Tryd.func34, Tryd.ntmps34
      go_wp2_with fail
      refine (C.out _).mono ?_
      rintro e w1 ⟨rfl, rfl⟩
      go_wp2_with fail
      refine (C2.out _).mono ?_
      rintro e w1 ⟨rfl, rfl⟩
      go_wp2_with fail
      go_ret
      exact ⟨rfl, rfl⟩
    · obtain ⟨n, hn⟩ : ∃ n : Nat, v + 1 = (n : Int) := ⟨(v + 1).toNat, by omega⟩
      have hnt : n ≤ t.size := by omega
      have hr : S (bareL (L (t.extract 0 n))) = S (dirL (L s)) := by rw [S_extract_to, hdir, if_neg h1, if_neg h2, hn]; rfl
      have C3 := Lib.hid (fun w => bare_any (t.extract 0 n) w (by rw [S_extract_to, S_size, List.length_take]; omega))
      rw [← hr]
      clear h1 hdir hr
      go_enter Tryd.func34, Tryd.ntmps34
      go_wp2_with fail
      refine (C.out _).mono ?_
      rintro e w1 ⟨rfl, rfl⟩
      go_wp2_with fail
      refine (C2.out _).mono ?_
      rintro e w1 ⟨rfl, rfl⟩
      go_wp2_with fail
      refine (C3.out _).mono ?_
      rintro e w1 ⟨rfl, rfl⟩
      go_wp2_with fail
      go_ret
      exact ⟨rfl, rfl⟩

/-! ### the document's -/
end Go.Proofs.YtdelgbkllnccoaaDoor
