/-
  The walks of Name and Number: the program's, and the document's.
-/
import Derived.Test.YthfnkgofkdahfaaGreatDoorK2
namespace Go.Proofs.YthfnkgofkdahfaaGreatDoor
open Go.RowKit

theorem u8lt (c : UInt8) : c.toNat < 256 := c.toNat_lt
/-- A byte of a name: the first one, or another. -/
def nmB (first : Bool) (c : UInt8) : Bool := lettB c || c == 95 || (!first && digB c)
def nameL (l : List UInt8) : Bool := !l.isEmpty && (List.range l.length).all fun i => nmB (i == 0) (l.getD i 0)
def nmTo (l : List UInt8) (k : Nat) : Prop := ∀ i, i < k → nmB (i == 0) (l.getD i 0) = true
theorem nmTo_succ {l : List UInt8} {k : Nat} (h : nmTo l k) (hc : nmB (k == 0) (l.getD k 0) = true) : nmTo l (k + 1) := fun i hi => by
  by_cases h1 : i < k
  · exact h i h1
  · obtain rfl : i = k := by omega
    exact hc
theorem name_no {l : List UInt8} {k : Nat} (hk : k < l.length) (hc : nmB (k == 0) (l.getD k 0) = false) : nameL l = false := by
  rw [nameL, Bool.and_eq_false_iff]
  right
  rw [List.all_eq_false]
  exact ⟨k, List.mem_range.2 hk, by rw [hc]; decide⟩
theorem name_yes {l : List UInt8} (h : nmTo l l.length) : nameL l = !l.isEmpty := by
  rw [nameL, List.all_eq_true.2 (fun i hi => h i (List.mem_range.1 hi)), Bool.and_true]

theorem rname_any (s : ByteArray) (w : World) (hs : s.size ≤ maxLen) :
    Calls Tryz.prog 15 #[.string s] w fun e w' => e = .returned (.bool (nameL (L s))) ∧ w = w' := by
  unfold maxLen at hs
  have C1 : Hid (∀ W (c : UInt8), Calls Tryz.prog 45 #[.int .u8 ((c.toNat : Nat) : Int)] W fun e w' => e = .returned (.bool (lettB c)) ∧ W = w') := Lib.hid fun W c => (letter_any c W).mono fun e w' h => ⟨h.1, h.2.symm⟩
  have C2 : Hid (∀ W (c : UInt8), Calls Tryz.prog 46 #[.int .u8 ((c.toNat : Nat) : Int)] W fun e w' => e = .returned (.bool (digB c)) ∧ W = w') := Lib.hid fun W c => (digit_any c W).mono fun e w' h => ⟨h.1, h.2.symm⟩
  go_enter Tryz.func15, Tryz.ntmps15
  go_wp2_with fail
  go_loop [3] (fun i => ∃ k : Nat, k ≤ s.size ∧ i = .int .i64 k ∧ nmTo (L s) k) (fun i => s.size - (intOf i).toNat)
  case atStart => exact ⟨0, Nat.zero_le _, rfl, fun i hi => by omega⟩
  case round =>
    obtain ⟨k, hk, rfl, hnm⟩ := hrel
    have HNM := Lib.hid hnm
    clear hnm
    by_cases hlt : k < s.size
    · have hidx := run_idx (P := Tryz.prog) Tryz.underlying9 s (k := .i64) (k : Int) k rfl hlt
      obtain ⟨r, hr⟩ : ∃ r, r = nmB (k == 0) ((L s).getD k 0) := ⟨_, rfl⟩
      have HRR := Lib.hid hr
      obtain ⟨c, hc⟩ : ∃ c, c = (L s).getD k 0 := ⟨_, rfl⟩
      rw [← hc] at hidx hr
      have D1 := Lib.hid (fun W => C1.out W c)
      have D2 := Lib.hid (fun W => C2.out W c)
      unfold nmB at hr
      obtain ⟨r1, h1⟩ : ∃ r, r = lettB c := ⟨_, rfl⟩
      obtain ⟨r2, h2⟩ : ∃ r, r = digB c := ⟨_, rfl⟩
      rw [← h1] at D1 hr
      rw [← h2] at D2 hr
      clear hc h1 h2
      cases r1
      · by_cases h95 : c = 95
        · have e1 : (((c.toNat : Nat) : Int) != 95) = false := by rw [h95]; rfl
          have HR : Hid (r = true) := Lib.hid (by rw [hr, h95]; simp)
          clear hr h95
          go_wp2_with fail
          refine (D1.out _).mono ?_
          rintro e w1 ⟨rfl, rfl⟩
          go_wp2
          go_round
          case rel => exact ⟨k + 1, by omega, by go_num, nmTo_succ HNM.out (HRR.out.symm.trans HR.out)⟩
          case measure => simp [intOf]; omega
        · have e1 : (((c.toNat : Nat) : Int) != 95) = true := by
            rw [bne_iff_ne]
            intro h
            exact h95 (UInt8.toNat_inj.1 (by have : ((95 : UInt8).toNat : Int) = 95 := rfl; omega))
          have h95' : (c == 95) = false := by simpa using h95
          rw [h95'] at hr
          by_cases hk0 : k = 0
          · have HR : Hid (r = false) := Lib.hid (by rw [hr, hk0]; rfl)
            have hkg : decide ((0 : Int) < (k : Int)) = false := by simp [hk0]
            have hkg2 : decide (0 < k) = false := by simp [hk0]
            clear hr h95 h95' hk0
            go_wp2_with fail
            refine (D1.out _).mono ?_
            rintro e w1 ⟨rfl, rfl⟩
            go_wp2
            go_ret
            exact ⟨ret_bool (name_no (l := L s) hlt (HRR.out.symm.trans HR.out)).symm, rfl⟩
          · have hkg : decide ((0 : Int) < (k : Int)) = true := by simp; omega
            have hkg2 : decide (0 < k) = true := by simp; omega
            have hk0' : (k == 0) = false := by simpa using hk0
            rw [hk0'] at hr
            cases r2
            · have HR : Hid (r = false) := Lib.hid (by rw [hr]; rfl)
              clear hr h95 h95' hk0 hk0'
              go_wp2_with fail
              refine (D1.out _).mono ?_
              rintro e w1 ⟨rfl, rfl⟩
              go_wp2_with fail
              refine (D2.out _).mono ?_
              rintro e w1 ⟨rfl, rfl⟩
              go_wp2
              go_ret
              exact ⟨ret_bool (name_no (l := L s) hlt (HRR.out.symm.trans HR.out)).symm, rfl⟩
            · have HR : Hid (r = true) := Lib.hid (by rw [hr]; rfl)
              clear hr h95 h95' hk0 hk0'
              go_wp2_with fail
              refine (D1.out _).mono ?_
              rintro e w1 ⟨rfl, rfl⟩
              go_wp2_with fail
              refine (D2.out _).mono ?_
              rintro e w1 ⟨rfl, rfl⟩
              go_wp2
              go_round
              case rel => exact ⟨k + 1, by omega, by go_num, nmTo_succ HNM.out (HRR.out.symm.trans HR.out)⟩
              case measure => simp [intOf]; omega
      · have HR : Hid (r = true) := Lib.hid (by rw [hr]; rfl)
        clear hr
        go_wp2_with fail
        refine (D1.out _).mono ?_
        rintro e w1 ⟨rfl, rfl⟩
        go_wp2
        go_round
        case rel => exact ⟨k + 1, by omega, by go_num, nmTo_succ HNM.out (HRR.out.symm.trans HR.out)⟩
        case measure => simp [intOf]; omega
    · have HR : Hid (nameL (L s) = !(L s).isEmpty) := Lib.hid (name_yes (by rw [L_size]; exact fun i hi => HNM.out i (by omega)))
      cases he : (L s).isEmpty with
      | true =>
        have e1 : s.toList.isEmpty = true := by rw [isEmpty_L]; exact he
        rw [he] at HR
        clear he
        go_wp2
        go_ret
        exact ⟨ret_bool HR.out.symm, rfl⟩
      | false =>
        have e1 : s.toList.isEmpty = false := by rw [isEmpty_L]; exact he
        rw [he] at HR
        clear he
        go_wp2
        go_ret
        exact ⟨ret_bool HR.out.symm, rfl⟩
end Go.Proofs.YthfnkgofkdahfaaGreatDoor
