/-
  The walks of Join, Under, Above, and of the document's Join and Above; whether two lists are the same.
-/
import Derived.Test.YtdelgbkllnccoaaDoorP3
import Derived.Test.YtdelgbkllnccoaaDoorOwnS
namespace Go.Proofs.YtdelgbkllnccoaaDoor
open Go.RowKit

def joinL (a b : List UInt8) : List UInt8 := if a = [] then b else if a.getD (a.length - 1) 0 = 47 then a ++ b else a ++ [47] ++ b
def underB (s d : List UInt8) : Bool := decide (d.length < s.length) && (s.take d.length == d) && (s.getD d.length 0 == 47)
/-- What stands ahead of the slashes among the first n. -/
def aboveTo (s : ByteArray) : Nat → List ByteArray
  | 0 => []
  | n + 1 => if (L s).getD n 0 = 47 then aboveTo s n ++ [s.extract 0 n] else aboveTo s n
theorem aboveTo_yes {s : ByteArray} {n : Nat} (h : (L s).getD n 0 = 47) : aboveTo s (n + 1) = aboveTo s n ++ [s.extract 0 n] := by rw [aboveTo, if_pos h]
theorem aboveTo_no {s : ByteArray} {n : Nat} (h : (L s).getD n 0 ≠ 47) : aboveTo s (n + 1) = aboveTo s n := by rw [aboveTo, if_neg h]
theorem aboveTo_len (s : ByteArray) : ∀ n, (aboveTo s n).length ≤ n
  | 0 => Nat.le_refl _
  | n + 1 => by have := aboveTo_len s n; rw [aboveTo]; split <;> simp <;> omega

theorem suffix_last (l : List UInt8) (h : l ≠ []) : Lib.hasSuffix l [47] = decide (l.getD (l.length - 1) 0 = 47) := by
  rw [← Lib.hasSuffix_of_drop]
  have hpos := List.length_pos_iff.2 h
  have e : l.drop (l.length - 1) = [l.getD (l.length - 1) 0] := by
    rw [drop_getD l (by omega), List.drop_eq_nil_of_le (by omega)]
  rw [show ([47] : List UInt8).length = 1 from rfl, e]
  rw [Bool.eq_iff_iff]
  simp
  omega

theorem hasPrefix_any (s p : ByteArray) (b : Bool) (w : World) (hb : Lib.hasPrefix (L s) (L p) = b) :
    Calls Tryd.prog 38 #[.string s, .string p] w fun e w' => e = .returned (.bool b) ∧ w' = w := by
  subst hb; exact Tryd.strings_HasPrefix s p w

theorem eq47 {c : UInt8} (h : c = 47) : (((c.toNat : Nat) : Int) == 47) = true := by rw [h]; rfl
theorem ne47 {c : UInt8} (h : c ≠ 47) : (((c.toNat : Nat) : Int) == 47) = false := by
  rw [beq_eq_false_iff_ne]
  intro e
  exact h (UInt8.toNat_inj.1 (by have : ((47 : UInt8).toNat : Int) = 47 := rfl; omega))

theorem prefix_take (l p : List UInt8) (h : p.length ≤ l.length) : Lib.hasPrefix l p = (l.take p.length == p) := by
  rw [← Lib.hasPrefix_of_take, decide_eq_true h, Bool.true_and]

theorem under_any (s d : ByteArray) (w : World) :
    Calls Tryd.prog 30 #[.string s, .string d] w fun e w' => e = .returned (.bool (underB (L s) (L d))) ∧ w' = w := by
  obtain ⟨u, hu⟩ : ∃ u, u = underB (L s) (L d) := ⟨_, rfl⟩
  rw [← hu]
  by_cases h1 : d.size < s.size
  · have hp := prefix_take (L s) (L d) (by rw [L_size, L_size]; omega)
    have i0 := run_idx (P := Tryd.prog) (k := .i64) Tryd.underlying9 s (d.size : Int) d.size rfl h1
    obtain ⟨c, hc⟩ : ∃ c, c = (L s).getD d.size 0 := ⟨_, rfl⟩
    rw [← hc] at i0
    cases hb : (L s).take (L d).length == L d with
    | false =>
      rw [hb] at hp
      have C := Lib.hid (fun w => hasPrefix_any s d false w hp)
      have hu' : u = false := by rw [hu, underB, hb]; simp
      subst hu'
      clear hp hb hu hc
      go_enter Tryd.func30, Tryd.ntmps30
      go_wp2_with fail
      refine (C.out _).mono ?_
      rintro e w1 ⟨rfl, rfl⟩
      go_wp2_with fail
      go_ret
      exact ⟨rfl, rfl⟩
    | true =>
      rw [hb] at hp
      have C := Lib.hid (fun w => hasPrefix_any s d true w hp)
      have hu' : u = (c == 47) := by rw [hu, underB, hb, decide_eq_true (by rw [L_size, L_size]; exact h1), hc]; simp [L_size]
      by_cases h47 : c = 47
      · have et := eq47 h47
        have hu2 : u = true := by rw [hu', h47]; rfl
        subst hu2
        clear hp hb hu hc hu' h47
        go_enter Tryd.func30, Tryd.ntmps30
        go_wp2_with fail
        refine (C.out _).mono ?_
        rintro e w1 ⟨rfl, rfl⟩
        go_wp2_with fail
        go_ret
        exact ⟨rfl, rfl⟩
      · have et := ne47 h47
        have hu2 : u = false := by rw [hu']; simpa using h47
        subst hu2
        clear hp hb hu hc hu' h47
        go_enter Tryd.func30, Tryd.ntmps30
        go_wp2_with fail
        refine (C.out _).mono ?_
        rintro e w1 ⟨rfl, rfl⟩
        go_wp2_with fail
        go_ret
        exact ⟨rfl, rfl⟩
  · have hu' : u = false := by rw [hu, underB, decide_eq_false (by rw [L_size, L_size]; exact h1)]; rfl
    subst hu'
    clear hu
    go_enter Tryd.func30, Tryd.ntmps30
    go_wp2_with fail
    go_ret
    exact ⟨rfl, rfl⟩

end Go.Proofs.YtdelgbkllnccoaaDoor
