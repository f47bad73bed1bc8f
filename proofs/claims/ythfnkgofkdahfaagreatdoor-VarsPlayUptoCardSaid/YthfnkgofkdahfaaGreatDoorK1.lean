/-
  Bytes of scripts' texts: letters, digits, bytes that may stand without quotes, special signs; the walks.
-/
import Derived.Test.YthfnkgofkdahfaaGreatDoorLib
import Derived.Test.YthfnkgofkdahfaaGreatDoorShelf
import Derived.Test.YthfnkgofkdahfaaGreatDoorByteEq
import Derived.Test.YthfnkgofkdahfaaGreatDoorSt
namespace Go.Proofs.YthfnkgofkdahfaaGreatDoor
open Go.RowKit

def lettB (c : UInt8) : Bool := (decide (97 ≤ c.toNat) && decide (c.toNat ≤ 122)) || (decide (65 ≤ c.toNat) && decide (c.toNat ≤ 90))
def digB (c : UInt8) : Bool := decide (48 ≤ c.toNat) && decide (c.toNat ≤ 57)
theorem bool_of {a b : Bool} {p : Prop} (h1 : a = true ↔ p) (h2 : b = true ↔ p) : a = b := by rw [Bool.eq_iff_iff, h1, h2]
theorem lettB_iff (c : UInt8) : lettB c = true ↔ (97 ≤ c.toNat ∧ c.toNat ≤ 122) ∨ (65 ≤ c.toNat ∧ c.toNat ≤ 90) := by simp [lettB]
theorem digB_iff (c : UInt8) : digB c = true ↔ 48 ≤ c.toNat ∧ c.toNat ≤ 57 := by simp [digB]

theorem letter_any (c : UInt8) (w : World) : Calls Tryz.prog 45 #[.int .u8 ((c.toNat : Nat) : Int)] w fun e w' => e = .returned (.bool (lettB c)) ∧ w' = w := by
  have hr := lettB_iff c
  obtain ⟨r, hr0⟩ : ∃ r, r = lettB c := ⟨_, rfl⟩
  rw [← hr0] at hr ⊢
  clear hr0
  obtain ⟨v, hv⟩ : ∃ v, v = c.toNat := ⟨_, rfl⟩
  rw [← hv] at hr ⊢
  have HR := Lib.hid hr
  clear hv hr
  by_cases h1 : 97 ≤ v
  all_goals by_cases h2 : 65 ≤ v
  all_goals by_cases h3 : v ≤ 122
  all_goals
    go_enter Tryz.func45, Tryz.ntmps45
    go_wp2
    all_goals
      go_ret
      exact ⟨ret_bool (by have := HR.out; rw [Bool.eq_iff_iff, this]; simp; try omega), rfl⟩

theorem digit_any (c : UInt8) (w : World) : Calls Tryz.prog 46 #[.int .u8 ((c.toNat : Nat) : Int)] w fun e w' => e = .returned (.bool (digB c)) ∧ w' = w := by
  have hr := digB_iff c
  obtain ⟨r, hr0⟩ : ∃ r, r = digB c := ⟨_, rfl⟩
  rw [← hr0] at hr ⊢
  clear hr0
  obtain ⟨v, hv⟩ : ∃ v, v = c.toNat := ⟨_, rfl⟩
  rw [← hv] at hr ⊢
  have HR := Lib.hid hr
  clear hv hr
  by_cases h1 : 48 ≤ v
  all_goals
    go_enter Tryz.func46, Tryz.ntmps46
    go_wp2
    all_goals
      go_ret
      exact ⟨ret_bool (by have := HR.out; rw [Bool.eq_iff_iff, this]; simp; try omega), rfl⟩

/-- One of a text's bytes. -/
def hasB (l : List UInt8) (c : UInt8) : Bool := l.contains c
theorem hasB_mem {l : List UInt8} {c : UInt8} : hasB l c = true ↔ c ∈ l := by rw [hasB, List.contains_iff_mem]
theorem getD_mem' {l : List UInt8} {i : Nat} (h : i < l.length) : l.getD i 0 ∈ l := by simp [List.getD, h]
theorem take_getD {l : List UInt8} {k : Nat} (h : k < l.length) : l.take (k + 1) = l.take k ++ [l.getD k 0] := by
  rw [List.take_add_one]
  simp [List.getD, List.getElem?_eq_getElem h]

theorem In_any (s : ByteArray) (c : UInt8) (w : World) (hs : s.size ≤ maxLen) :
    Calls Tryz.prog 47 #[.string s, .int .u8 ((c.toNat : Nat) : Int)] w fun e w' => e = .returned (.bool (hasB (L s) c)) ∧ w' = w := by
  unfold maxLen at hs
  go_enter Tryz.func47, Tryz.ntmps47
  go_wp2_with fail
  go_loop [5] (fun i => ∃ k : Nat, k ≤ s.size ∧ i = .int .i64 k ∧ ∀ d ∈ (L s).take k, d ≠ c) (fun i => s.size - (intOf i).toNat)
  case atStart => exact ⟨0, Nat.zero_le _, rfl, by simp⟩
  case round =>
    obtain ⟨k, hk, rfl, hno⟩ := hrel
    have HNO := Lib.hid hno
    clear hno
    by_cases hlt : k < s.size
    · have hidx := run_idx (P := Tryz.prog) Tryz.underlying9 s (k := .i64) (k : Int) k rfl hlt
      have htk := take_getD (show k < (L s).length from hlt)
      have hmem : (L s).getD k 0 ∈ L s := getD_mem' hlt
      obtain ⟨d, hd⟩ : ∃ d, d = (L s).getD k 0 := ⟨_, rfl⟩
      rw [← hd] at hidx htk hmem
      have HTK := Lib.hid htk
      have HM := Lib.hid hmem
      clear htk hd hmem
      by_cases hdc : d = c
      · have e1 := eq_byte hdc
        have HR : Hid (hasB (L s) c = true) := Lib.hid (hasB_mem.2 (by rw [← hdc]; exact HM.out))
        clear hdc
        go_wp2
        go_ret
        exact ⟨ret_bool HR.out.symm, rfl⟩
      · have e1 := ne_byte hdc
        have HDC := Lib.hid hdc
        clear hdc
        go_wp2
        go_round
        case rel => exact ⟨k + 1, by omega, by go_num, by
          rw [HTK.out]
          intro z hz
          rcases List.mem_append.1 hz with hz | hz
          · exact HNO.out z hz
          · simp at hz; subst hz; exact HDC.out⟩
        case measure => simp [intOf]; omega
    · have HR : Hid (hasB (L s) c = false) := Lib.hid (by
        have h := HNO.out
        rw [List.take_of_length_le (by rw [L_size]; omega)] at h
        cases hh : hasB (L s) c with
        | false => rfl
        | true => exact absurd rfl (h c (hasB_mem.1 hh)))
      go_wp2
      go_ret
      exact ⟨ret_bool HR.out.symm, rfl⟩
end Go.Proofs.YthfnkgofkdahfaaGreatDoor
