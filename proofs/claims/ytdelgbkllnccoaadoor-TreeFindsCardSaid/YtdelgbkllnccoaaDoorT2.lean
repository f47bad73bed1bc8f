/-
  The walks of what is wrong with an item by itself: the program's, and the document's.
-/
import Derived.Test.YtdelgbkllnccoaaDoorT1
namespace Go.Proofs.YtdelgbkllnccoaaDoor
open Go.RowKit

/-- An item's cells. -/
structure ItAt (w : World) (b o : Nat) (x : It) : Prop where
  p : w.cell? ⟨b, o, none⟩ = some (.string x.p)
  k : w.cell? ⟨b, o + 1, none⟩ = some (.int .i64 x.k)
  m : w.cell? ⟨b, o + 2, none⟩ = some (.int .i64 x.m)
  d : w.cell? ⟨b, o + 3, none⟩ = some (.string x.d)
  s : w.cell? ⟨b, o + 4, none⟩ = some (.string x.s)
theorem ItAt.below {w w' : World} {b o B : Nat} {x : It} (h : ItAt w b o x) (hb : Below B w w') (hB : b < B) : ItAt w' b o x :=
  ⟨(hb.cell hB).trans h.p, (hb.cell hB).trans h.k, (hb.cell hB).trans h.m, (hb.cell hB).trans h.d, (hb.cell hB).trans h.s⟩

theorem mright_any (m : Int) (w : World) : Calls Tryd.prog 41 #[.int .i64 m] w fun e w' => e = .returned (.bool (decide (0 ≤ m) && decide (m ≤ 4095))) ∧ w = w' := by
  by_cases h1 : 0 ≤ m
  · by_cases h2 : m ≤ 4095
    · have HR : Hid ((decide (0 ≤ m) && decide (m ≤ 4095)) = true) := Lib.hid (by simp [h1, h2])
      go_enter Tryd.func41, Tryd.ntmps41
      go_wp2
      go_ret
      exact ⟨ret_bool HR.out.symm, rfl⟩
    · have HR : Hid ((decide (0 ≤ m) && decide (m ≤ 4095)) = false) := Lib.hid (by simp [h2])
      go_enter Tryd.func41, Tryd.ntmps41
      go_wp2
      go_ret
      exact ⟨ret_bool (by simp [h2]), rfl⟩
  · have HR : Hid ((decide (0 ≤ m) && decide (m ≤ 4095)) = false) := Lib.hid (by simp [h1])
    go_enter Tryd.func41, Tryd.ntmps41
    go_wp2
    go_ret
    exact ⟨ret_bool HR.out.symm, rfl⟩

theorem nil_empty {s : ByteArray} (h : L s = []) : s.toList.isEmpty = true := by rw [isEmpty_L, h]; rfl
theorem ne_empty {s : ByteArray} (h : L s ≠ []) : s.toList.isEmpty = false := by rw [isEmpty_L]; simpa using h
theorem nil_eq {s : ByteArray} (h : L s = []) : s = ⟨#[]⟩ := by rw [← S_L s, h]; rfl

theorem body_any (x : It) (w : World) (hk : 1 ≤ x.k ∧ x.k ≤ 3) (hd : x.d.size ≤ maxLen) :
    Calls Tryd.prog 42 #[itV x] w fun e w' => e = .returned (.int .i64 (bodyE x)) ∧ Below w.heap.size w w' := by
  unfold maxLen at hd
  obtain ⟨p, k, m, d, s⟩ := x
  have CR := Lib.hid (fun w => right_any d w (by unfold maxLen; omega))
  simp only [] at hk hd
  unfold itV
  by_cases k1 : k = 1
  · subst k1
    by_cases h1 : 4194304 < d.size
    · have HR : Hid (bodyE ⟨p, 1, m, d, s⟩ = 18) := Lib.hid (by simp [bodyE, h1])
      go_enter Tryd.func42, Tryd.ntmps42
      go_wp2
      go_ret
      exact ⟨ret_int HR.out.symm, by go_grown⟩
    · have HR : Hid (bodyE ⟨p, 1, m, d, s⟩ = 0) := Lib.hid (by simp [bodyE, h1])
      go_enter Tryd.func42, Tryd.ntmps42
      go_wp2
      go_ret
      exact ⟨ret_int HR.out.symm, by go_grown⟩
  · by_cases k2 : k = 2
    · subst k2
      clear k1
      by_cases h1 : L d = []
      · have e1 := nil_empty h1
        by_cases h2 : L s = []
        · have e2 := nil_empty h2
          have HR : Hid (bodyE ⟨p, 2, m, d, s⟩ = 0) := Lib.hid (by simp [bodyE, h1, h2])
          clear h1 h2
          go_enter Tryd.func42, Tryd.ntmps42
          go_wp2
          go_ret
          exact ⟨ret_int HR.out.symm, by go_grown⟩
        · have e2 := ne_empty h2
          have HR : Hid (bodyE ⟨p, 2, m, d, s⟩ = 43) := Lib.hid (by simp [bodyE, h2])
          clear h1 h2
          go_enter Tryd.func42, Tryd.ntmps42
          go_wp2
          go_ret
          exact ⟨ret_int HR.out.symm, by go_grown⟩
      · have e1 := ne_empty h1
        have HR : Hid (bodyE ⟨p, 2, m, d, s⟩ = 43) := Lib.hid (by simp [bodyE, h1])
        clear h1
        go_enter Tryd.func42, Tryd.ntmps42
        go_wp2
        go_ret
        exact ⟨ret_int HR.out.symm, by go_grown⟩
    · obtain rfl : k = 3 := by omega
      clear k1 k2
      by_cases h2 : L s = []
      · have e2 := nil_empty h2
        by_cases h1 : 4095 < d.size
        · have HR : Hid (bodyE ⟨p, 3, m, d, s⟩ = 18) := Lib.hid (by simp [bodyE, h1, h2])
          clear h2
          go_enter Tryd.func42, Tryd.ntmps42
          go_wp2
          go_ret
          exact ⟨ret_int HR.out.symm, by go_grown⟩
        · cases hr : rightB (L d) with
          | true =>
            rw [hr] at CR
            have HR : Hid (bodyE ⟨p, 3, m, d, s⟩ = 0) := Lib.hid (by simp [bodyE, h1, h2, hr])
            clear h2 hr
            go_enter Tryd.func42, Tryd.ntmps42
            go_wp2_with fail
            refine (CR.out _).mono ?_
            rintro e w1 ⟨rfl, rfl⟩
            go_wp2
            go_ret
            exact ⟨ret_int HR.out.symm, by go_grown⟩
          | false =>
            rw [hr] at CR
            have HR : Hid (bodyE ⟨p, 3, m, d, s⟩ = 11) := Lib.hid (by simp [bodyE, h1, h2, hr])
            clear h2 hr
            go_enter Tryd.func42, Tryd.ntmps42
            go_wp2_with fail
            refine (CR.out _).mono ?_
            rintro e w1 ⟨rfl, rfl⟩
            go_wp2
            go_ret
            exact ⟨ret_int HR.out.symm, by go_grown⟩
      · have e2 := ne_empty h2
        have HR : Hid (bodyE ⟨p, 3, m, d, s⟩ = 43) := Lib.hid (by simp [bodyE, h2])
        clear h2
        go_enter Tryd.func42, Tryd.ntmps42
        go_wp2
        go_ret
        exact ⟨ret_int HR.out.symm, by go_grown⟩
end Go.Proofs.YtdelgbkllnccoaaDoor
