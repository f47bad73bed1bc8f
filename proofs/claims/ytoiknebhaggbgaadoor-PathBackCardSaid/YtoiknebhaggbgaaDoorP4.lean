/-
  The walks of Join, Under, Above, and of the document's Join and Above; whether two lists are the same.
-/
import Derived.Test.YtoiknebhaggbgaaDoorP3
import Derived.Test.YtoiknebhaggbgaaDoorOwnS
namespace Go.Proofs.YtoiknebhaggbgaaDoor
open Go.RowKit

def joinL (a b : List UInt8) : List UInt8 := if a = [] then b else if a.getD (a.length - 1) 0 = 47 then a ++ b else a ++ [47] ++ b
def underB (s d : List UInt8) : Bool := decide (d.length < s.length) && (s.take d.length == d) && (s.getD d.length 0 == 47)
/-- What stands ahead of the slashes among the first n. -/
def aboveTo (s : ByteArray) : Nat → List ByteArray
  | 0 => []
  | n + 1 => if (L s).getD n 0 = 47 then aboveTo s n ++ [s.extract 0 n] else aboveTo s n
theorem aboveTo_yes {s : ByteArray} {n : Nat} (h : (L s).getD n 0 = 47) : aboveTo s (n + 1) = aboveTo s n ++ [s.extract 0 n] := by rw [aboveTo, if_pos h]
theorem aboveTo_no {s : ByteArray} {n : Nat} (h : (L s).getD n 0 ≠ 47) : aboveTo s (n + 1) = aboveTo s n := by rw [aboveTo, if_neg h]
theorem aboveTo_len (s : ByteArray) : ∀ n, (aboveTo s n).length ≤ n
  | 0 => Nat.le_refl _
  | n + 1 => by have := aboveTo_len s n; rw [aboveTo]; split <;> simp <;> omega

theorem suffix_last (l : List UInt8) (h : l ≠ []) : Lib.hasSuffix l [47] = decide (l.getD (l.length - 1) 0 = 47) := by
  rw [← Lib.hasSuffix_of_drop]
  have hpos := List.length_pos_iff.2 h
  have e : l.drop (l.length - 1) = [l.getD (l.length - 1) 0] := by
    rw [drop_getD l (by omega), List.drop_eq_nil_of_le (by omega)]
  rw [show ([47] : List UInt8).length = 1 from rfl, e]
  rw [Bool.eq_iff_iff]
  simp
  omega

theorem hasSuffix_any (s : ByteArray) (b : Bool) (w : World) (hs : s.size ≤ 100000) (hb : Lib.hasSuffix (L s) [47] = b) :
    Calls Tryd.prog 31 #[.string s, .string ⟨#[47]⟩] w fun e w' => e = .returned (.bool b) ∧ w' = w := by
  subst hb; exact Tryd.strings_HasSuffix s ⟨#[47]⟩ w (by omega)
theorem hasPrefix_any (s p : ByteArray) (b : Bool) (w : World) (hb : Lib.hasPrefix (L s) (L p) = b) :
    Calls Tryd.prog 32 #[.string s, .string p] w fun e w' => e = .returned (.bool b) ∧ w' = w := by
  subst hb; exact Tryd.strings_HasPrefix s p w

theorem eq47 {c : UInt8} (h : c = 47) : (((c.toNat : Nat) : Int) == 47) = true := by rw [h]; rfl
theorem ne47 {c : UInt8} (h : c ≠ 47) : (((c.toNat : Nat) : Int) == 47) = false := by
  rw [beq_eq_false_iff_ne]
  intro e
  exact h (UInt8.toNat_inj.1 (by have : ((47 : UInt8).toNat : Int) = 47 := rfl; omega))

theorem join_any (a b : ByteArray) (w : World) (ha : a.size ≤ 100000) (hb : b.size ≤ 100000) :
    Calls Tryd.prog 12 #[.string a, .string b] w fun e w' => e = .returned (.string (S (joinL (L a) (L b)))) ∧ w' = w := by
  by_cases h0 : L a = []
  · have e0 : a.toList.isEmpty = true := by rw [isEmpty_L, h0]; rfl
    have hr : b = S (joinL (L a) (L b)) := by rw [joinL, if_pos h0, S_L]
    rw [← hr]
    clear h0 hr
    go_enter Tryd.func12, Tryd.ntmps12
    go_wp2_with fail
    go_ret
    exact ⟨rfl, rfl⟩
  · have e0 : a.toList.isEmpty = false := by rw [isEmpty_L]; simpa using h0
    have hsf := suffix_last (L a) h0
    by_cases h1 : (L a).getD ((L a).length - 1) 0 = 47
    · rw [decide_eq_true h1] at hsf
      have C := Lib.hid (fun w => hasSuffix_any a true w ha hsf)
      have hr : a ++ b = S (joinL (L a) (L b)) := by rw [joinL, if_neg h0, if_pos h1, ← L_append, S_L]
      rw [← hr]
      clear h0 h1 hr hsf
      go_enter Tryd.func12, Tryd.ntmps12
      go_wp2_with fail
      refine (C.out _).mono ?_
      rintro e w1 ⟨rfl, rfl⟩
      go_wp2_with fail
      go_ret
      exact ⟨rfl, rfl⟩
    · rw [decide_eq_false h1] at hsf
      have C := Lib.hid (fun w => hasSuffix_any a false w ha hsf)
      have hr : a ++ ⟨#[47]⟩ ++ b = S (joinL (L a) (L b)) := by apply L_inj; rw [L_S, joinL, if_neg h0, if_neg h1, L_append, L_append]; rfl
      rw [← hr]
      clear h0 h1 hr hsf
      go_enter Tryd.func12, Tryd.ntmps12
      go_wp2_with fail
      refine (C.out _).mono ?_
      rintro e w1 ⟨rfl, rfl⟩
      go_wp2_with fail
      go_ret
      exact ⟨rfl, rfl⟩

theorem refJoin_any (a b : ByteArray) (w : World) (ha : a.size ≤ 100000) (hb : b.size ≤ 100000) :
    Calls Tryd.prog 13 #[.string a, .string b] w fun e w' => e = .returned (.string (S (joinL (L a) (L b)))) ∧ w' = w := by
  by_cases h0 : L a = []
  · have e0 : a.toList.isEmpty = true := by rw [isEmpty_L, h0]; rfl
    have hr : b = S (joinL (L a) (L b)) := by rw [joinL, if_pos h0, S_L]
    rw [← hr]
    clear h0 hr
    go_enter Tryd.func13, Tryd.ntmps13
    go_wp2_with fail
    go_ret
    exact ⟨rfl, rfl⟩
  · have e0 : a.toList.isEmpty = false := by rw [isEmpty_L]; simpa using h0
    have hpos : 0 < a.size := List.length_pos_iff.2 h0
    have i0 := run_idx (P := Tryd.prog) (k := .i64) Tryd.underlying9 a ((a.size : Int) - 1) (a.size - 1) (by omega) (by omega)
    by_cases h1 : (L a).getD (a.size - 1) 0 = 47
    · have et := eq47 h1
      have hr : a ++ b = S (joinL (L a) (L b)) := by rw [joinL, if_neg h0, if_pos (show (L a).getD ((L a).length - 1) 0 = 47 from h1), ← L_append, S_L]
      rw [← hr]
      obtain ⟨c, hc⟩ : ∃ c, c = (L a).getD (a.size - 1) 0 := ⟨_, rfl⟩
      rw [← hc] at i0 et
      clear h0 h1 hr hc
      go_enter Tryd.func13, Tryd.ntmps13
      go_wp2_with fail
      go_ret
      exact ⟨rfl, rfl⟩
    · have et := ne47 h1
      have hr : a ++ ⟨#[47]⟩ ++ b = S (joinL (L a) (L b)) := by apply L_inj; rw [L_S, joinL, if_neg h0, if_neg (show ¬ (L a).getD ((L a).length - 1) 0 = 47 from h1), L_append, L_append]; rfl
      rw [← hr]
      obtain ⟨c, hc⟩ : ∃ c, c = (L a).getD (a.size - 1) 0 := ⟨_, rfl⟩
      rw [← hc] at i0 et
      clear h0 h1 hr hc
      go_enter Tryd.func13, Tryd.ntmps13
      go_wp2_with fail
      go_ret
      exact ⟨rfl, rfl⟩

theorem prefix_take (l p : List UInt8) (h : p.length ≤ l.length) : Lib.hasPrefix l p = (l.take p.length == p) := by
  rw [← Lib.hasPrefix_of_take, decide_eq_true h, Bool.true_and]

theorem under_any (s d : ByteArray) (w : World) :
    Calls Tryd.prog 14 #[.string s, .string d] w fun e w' => e = .returned (.bool (underB (L s) (L d))) ∧ w' = w := by
  obtain ⟨u, hu⟩ : ∃ u, u = underB (L s) (L d) := ⟨_, rfl⟩
  rw [← hu]
  by_cases h1 : d.size < s.size
  · have hp := prefix_take (L s) (L d) (by rw [L_size, L_size]; omega)
    have i0 := run_idx (P := Tryd.prog) (k := .i64) Tryd.underlying9 s (d.size : Int) d.size rfl h1
    obtain ⟨c, hc⟩ : ∃ c, c = (L s).getD d.size 0 := ⟨_, rfl⟩
    rw [← hc] at i0
    cases hb : (L s).take (L d).length == L d with
    | false =>
      rw [hb] at hp
      have C := Lib.hid (fun w => hasPrefix_any s d false w hp)
      have hu' : u = false := by rw [hu, underB, hb]; simp
      subst hu'
      clear hp hb hu hc
      go_enter Tryd.func14, Tryd.ntmps14
      go_wp2_with fail
      refine (C.out _).mono ?_
      rintro e w1 ⟨rfl, rfl⟩
      go_wp2_with fail
      go_ret
      exact ⟨rfl, rfl⟩
    | true =>
      rw [hb] at hp
      have C := Lib.hid (fun w => hasPrefix_any s d true w hp)
      have hu' : u = (c == 47) := by rw [hu, underB, hb, decide_eq_true (by rw [L_size, L_size]; exact h1), hc]; simp [L_size]
      by_cases h47 : c = 47
      · have et := eq47 h47
        have hu2 : u = true := by rw [hu', h47]; rfl
        subst hu2
        clear hp hb hu hc hu' h47
        go_enter Tryd.func14, Tryd.ntmps14
        go_wp2_with fail
        refine (C.out _).mono ?_
        rintro e w1 ⟨rfl, rfl⟩
        go_wp2_with fail
        go_ret
        exact ⟨rfl, rfl⟩
      · have et := ne47 h47
        have hu2 : u = false := by rw [hu']; simpa using h47
        subst hu2
        clear hp hb hu hc hu' h47
        go_enter Tryd.func14, Tryd.ntmps14
        go_wp2_with fail
        refine (C.out _).mono ?_
        rintro e w1 ⟨rfl, rfl⟩
        go_wp2_with fail
        go_ret
        exact ⟨rfl, rfl⟩
  · have hu' : u = false := by rw [hu, underB, decide_eq_false (by rw [L_size, L_size]; exact h1)]; rfl
    subst hu'
    clear hu
    go_enter Tryd.func14, Tryd.ntmps14
    go_wp2_with fail
    go_ret
    exact ⟨rfl, rfl⟩

set_option maxHeartbeats 800000 in
theorem above_any (s : ByteArray) (w : World) (hs : s.size ≤ 100000) :
    Calls Tryd.prog 16 #[.string s] w fun e w' => ∃ v, e = .returned v ∧ OwnS w' w.heap.size v (aboveTo s s.size) ∧ Below w.heap.size w w' := by
  go_enter Tryd.func16, Tryd.ntmps16
  go_wp2_with fail
  go_loopw [3, 7] (fun v i wr => ∃ (k : Nat), k ≤ s.size ∧ i = .int .i64 k ∧ OwnS wr w.heap.size v (aboveTo s k) ∧ Below w.heap.size w wr) (fun _ i _ => s.size - (intOf i).toNat)
  case atStart => exact ⟨0, Nat.zero_le _, rfl, OwnS.nil _ _, Below.refl _ _⟩
  case round =>
    obtain ⟨k, hk, rfl, hown, hbw⟩ := hrel
    have hbs := hbw.size
    by_cases hlt : k < s.size
    · have i0 := run_idx (P := Tryd.prog) (k := .i64) Tryd.underlying9 s (k : Int) k rfl hlt
      have hlen := aboveTo_len s k
      obtain ⟨c, hc⟩ : ∃ c, c = (L s).getD k 0 := ⟨_, rfl⟩
      rw [← hc] at i0
      by_cases h47 : c = 47
      · have et := eq47 h47
        have hl := aboveTo_yes (hc ▸ h47)
        have HL := Lib.hid hl
        clear hc h47 hl
        go_wp2_with (at_builtin; go_must (refine append_string rfl _ _ rfl rfl (OwnS.alloc hown _) (s.extract 0 k) rfl (cell_newS _ _ _) (by omega) (Below.alloc hbw hbs _) (by simp; omega) ?_); intro v' w' hown' hbw' hbs')
        go_roundw
        case rel => exact ⟨k + 1, by omega, by go_num, by rw [HL.out]; exact hown', hbw'⟩
        case measure => simp [intOf]; omega
      · have et := ne47 h47
        have hl := aboveTo_no (hc ▸ h47)
        have HL := Lib.hid hl
        clear hc h47 hl
        go_wp2_with fail
        go_roundw
        case rel => exact ⟨k + 1, by omega, by go_num, by rw [HL.out]; exact hown, hbw⟩
        case measure => simp [intOf]; omega
    · obtain rfl : k = s.size := by omega
      go_wp2_with fail
      go_ret
      exact ⟨_, rfl, hown, hbw⟩

set_option maxHeartbeats 800000 in
theorem refAbove_any (s : ByteArray) (w : World) (hs : s.size ≤ 100000) :
    Calls Tryd.prog 17 #[.string s] w fun e w' => ∃ v, e = .returned v ∧ OwnS w' w.heap.size v (aboveTo s s.size) ∧ Below w.heap.size w w' := by
  go_enter Tryd.func17, Tryd.ntmps17
  go_wp2_with fail
  go_loopw [3, 4] (fun v i wr => ∃ (k : Nat), k ≤ s.size ∧ i = .int .i64 k ∧ OwnS wr w.heap.size v (aboveTo s k) ∧ Below w.heap.size w wr) (fun _ i _ => s.size - (intOf i).toNat)
  case atStart => exact ⟨0, Nat.zero_le _, rfl, OwnS.nil _ _, Below.refl _ _⟩
  case round =>
    obtain ⟨k, hk, rfl, hown, hbw⟩ := hrel
    have hbs := hbw.size
    by_cases hlt : k < s.size
    · have i0 := run_idx (P := Tryd.prog) (k := .i64) Tryd.underlying9 s (k : Int) k rfl hlt
      have hlen := aboveTo_len s k
      obtain ⟨c, hc⟩ : ∃ c, c = (L s).getD k 0 := ⟨_, rfl⟩
      rw [← hc] at i0
      by_cases h47 : c = 47
      · have et := eq47 h47
        have hl := aboveTo_yes (hc ▸ h47)
        have HL := Lib.hid hl
        clear hc h47 hl
        go_wp2_with (at_builtin; go_must (refine append_string rfl _ _ rfl rfl (OwnS.alloc hown _) (s.extract 0 k) rfl (cell_newS _ _ _) (by omega) (Below.alloc hbw hbs _) (by simp; omega) ?_); intro v' w' hown' hbw' hbs')
        go_roundw
        case rel => exact ⟨k + 1, by omega, by go_num, by rw [HL.out]; exact hown', hbw'⟩
        case measure => simp [intOf]; omega
      · have et := ne47 h47
        have hl := aboveTo_no (hc ▸ h47)
        have HL := Lib.hid hl
        clear hc h47 hl
        go_wp2_with fail
        go_roundw
        case rel => exact ⟨k + 1, by omega, by go_num, by rw [HL.out]; exact hown, hbw⟩
        case measure => simp [intOf]; omega
    · obtain rfl : k = s.size := by omega
      go_wp2_with fail
      go_ret
      exact ⟨_, rfl, hown, hbw⟩

/-- Two lists with the same strings. -/
theorem same_any (a b : Option Addr) (n c d : Nat) (xs : List ByteArray) (w : World) (B : Nat) (ha : Elems w B a n (xs.map Value.string)) (hb : Elems w B b n (xs.map Value.string)) :
    Calls Tryd.prog 15 #[.slice a n c, .slice b n d] w fun e w' => e = .returned (.bool true) ∧ Below w.heap.size w w' := by
  have hn := ha.2.1
  have hxl : xs.length = n := by have := ha.1; simpa using this
  obtain ⟨b1, o1, r1, _, c1⟩ := ha.open 28 9 Tryd.underlying28 (by kernel_rfl)
  obtain ⟨b2, o2, r2, _, c2⟩ := hb.open 28 9 Tryd.underlying28 (by kernel_rfl)
  unfold maxLen at hn
  clear ha hb
  have HX := Lib.hid hxl
  have R1 := Lib.hid r1
  have R2 := Lib.hid r2
  have C1 := Lib.hid c1
  have C2 := Lib.hid c2
  clear hxl r1 r2 c1 c2
  go_enter Tryd.func15, Tryd.ntmps15
  go_wp2_with fail
  go_loopw [13] (fun i wr => ∃ (k : Nat), k ≤ n ∧ i = .int .i64 k ∧ (∀ p, wr.cell? p = w.cell? p) ∧ Below w.heap.size w wr) (fun i _ => n - (intOf i).toNat)
  case atStart => exact ⟨0, Nat.zero_le _, rfl, fun _ => rfl, Below.refl _ _⟩
  case round =>
    obtain ⟨k, hk, rfl, hcell, hbw⟩ := hrel
    by_cases hlt : k < n
    · have hkx : k < xs.length := by rw [HX.out]; exact hlt
      have j1 := fun w' => R1.out k c w' hlt
      have j2 := fun w' => R2.out k d w' hlt
      obtain ⟨x, hx⟩ : ∃ x, xs[k]? = some x := ⟨_, List.getElem?_eq_getElem hkx⟩
      have d1 : wr.cell? ⟨b1, o1 + k, none⟩ = some (.string x) := by rw [hcell, C1.out k hlt, List.getElem?_map, hx]; rfl
      have d2 : wr.cell? ⟨b2, o2 + k, none⟩ = some (.string x) := by rw [hcell, C2.out k hlt, List.getElem?_map, hx]; rfl
      have HC := Lib.hid hcell
      clear hx hcell
      go_wp2_with fail
      go_quiet (fail)
      go_wp2_with fail
      go_roundw
      case rel => exact ⟨k + 1, by omega, by go_num, fun p => HC.out p, below_drewN hbw nq⟩
      case measure => simp [intOf]; omega
    · obtain rfl : k = n := by omega
      go_wp2_with fail
      go_ret
      exact ⟨rfl, hbw⟩
end Go.Proofs.YtoiknebhaggbgaaDoor
