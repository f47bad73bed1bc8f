/-
  The walks of Number: the program's, and the document's.
-/
import Derived.Test.YthfnkgofkdahfaaGreatDoorK4
namespace Go.Proofs.YthfnkgofkdahfaaGreatDoor
open Go.RowKit

def digsTo (l : List UInt8) (k : Nat) : Prop := ∀ i, i < k → digB (l.getD i 0) = true
theorem digsTo_succ {l : List UInt8} {k : Nat} (h : digsTo l k) (hc : digB (l.getD k 0) = true) : digsTo l (k + 1) := fun i hi => by
  by_cases h1 : i < k
  · exact h i h1
  · obtain rfl : i = k := by omega
    exact hc
def digsB (l : List UInt8) : Bool := (List.range l.length).all fun i => digB (l.getD i 0)
theorem digs_no {l : List UInt8} {k : Nat} (hk : k < l.length) (hc : digB (l.getD k 0) = false) : digsB l = false := by
  rw [digsB, List.all_eq_false]
  exact ⟨k, List.mem_range.2 hk, by rw [hc]; decide⟩
theorem digs_yes {l : List UInt8} (h : digsTo l l.length) : digsB l = true := List.all_eq_true.2 (fun i hi => h i (List.mem_range.1 hi))
/-- A positional parameter's number. -/
def numB (l : List UInt8) : Bool := digsB l && (l == [48] || (!l.isEmpty && (l.getD 0 0 != 48 && decide (l.length ≤ 4))))
theorem num_no {l : List UInt8} {k : Nat} (hk : k < l.length) (hc : digB (l.getD k 0) = false) : numB l = false := by rw [numB, digs_no hk hc, Bool.false_and]
theorem num_yes {l : List UInt8} (h : digsTo l l.length) : numB l = (l == [48] || (!l.isEmpty && (l.getD 0 0 != 48 && decide (l.length ≤ 4)))) := by rw [numB, digs_yes h, Bool.true_and]

set_option maxHeartbeats 1000000 in
theorem number_any (s : ByteArray) (w : World) (hs : s.size ≤ maxLen) :
    Calls Tryz.prog 42 #[.string s] w fun e w' => e = .returned (.bool (numB (L s))) ∧ Below w.heap.size w w' := by
  unfold maxLen at hs
  have HM := Lib.hid (BytesAt.made w 5 s)
  have HB := Lib.hid (below_bytesWorld w 5 s)
  obtain ⟨wb, hwb⟩ : ∃ wb, wb = Lib.bytesWorld w 5 s := ⟨_, rfl⟩
  rw [← hwb] at HM HB
  have HWB := Lib.hid hwb
  clear hwb
  go_enter Tryz.func42, Tryz.ntmps42
  go_wp2_with fail
  rw [← HWB.out]
  go_loopw [8] (fun i wr => ∃ k : Nat, k ≤ s.size ∧ i = .int .i64 k ∧ digsTo (L s) k ∧ wr = wb) (fun i _ => s.size - (intOf i).toNat)
  case atStart => exact ⟨0, Nat.zero_le _, rfl, fun i hi => by omega, rfl⟩
  case round =>
    obtain ⟨k, hk, rfl, hnm, rfl⟩ := hrel
    have HNM := Lib.hid hnm
    clear hnm
    by_cases hlt : k < s.size
    · have hcell := (HM.out k hlt).1
      obtain ⟨r, hr⟩ : ∃ r, r = digB ((L s).getD k 0) := ⟨_, rfl⟩
      have HRR := Lib.hid hr
      obtain ⟨c, hc⟩ : ∃ c, c = (L s).getD k 0 := ⟨_, rfl⟩
      rw [← hc] at hcell hr
      have hit := digB_iff c
      rw [← hr] at hit
      obtain ⟨v, hv⟩ : ∃ v, v = c.toNat := ⟨_, rfl⟩
      rw [← hv] at hcell hit
      clear hc hr hv
      have hcls : v < 48 ∨ (48 ≤ v ∧ v ≤ 57) ∨ 58 ≤ v := by omega
      rcases hcls with h | ⟨h, h'⟩ | h
      all_goals
        first
          | (have HR : Hid (r = true) := Lib.hid (hit.2 (by omega)))
          | (have HR : Hid (r = false) := Lib.hid ((Bool.eq_false_or_eq_true r).elim (fun e => absurd (hit.1 e) (by omega)) id))
        clear hit
        go_wp2
        first
          | (go_ret
             exact ⟨ret_bool (num_no (l := L s) hlt (HRR.out.symm.trans HR.out)).symm, HB.out⟩)
          | (go_roundw
             case rel => exact ⟨k + 1, by omega, by go_num, digsTo_succ HNM.out (HRR.out.symm.trans HR.out), by first | trivial | rfl⟩
             case measure => simp [intOf]; omega)
    · have HR := Lib.hid (num_yes (l := L s) (by rw [L_size]; exact fun i hi => HNM.out i (by omega)))
      obtain ⟨b0, h0⟩ : ∃ b, b = (L s == [48]) := ⟨_, rfl⟩
      have e0 : (s.toList == [48]) = b0 := by rw [h0, toList_L]
      rw [← h0] at HR
      obtain ⟨b1, h1⟩ : ∃ b, b = (L s).isEmpty := ⟨_, rfl⟩
      have e1 : s.toList.isEmpty = b1 := by rw [h1, toList_L]
      rw [← h1] at HR
      clear h0
      cases b0
      · cases b1
        · have hpos : 0 < s.size := by
            rw [← L_size]
            exact List.length_pos_iff.2 fun h => by rw [h] at h1; cases h1
          have i0 := run_idx (P := Tryz.prog) (k := .i64) Tryz.underlying9 s (0 : Int) 0 rfl hpos
          obtain ⟨c, hc⟩ : ∃ c, c = (L s).getD 0 0 := ⟨_, rfl⟩
          rw [← hc] at HR i0
          obtain ⟨b2, h2⟩ : ∃ b, b = (c != 48) := ⟨_, rfl⟩
          rw [← h2] at HR
          have e2 : (((c.toNat : Nat) : Int) != 48) = b2 := by
            rw [h2, Bool.eq_iff_iff, bne_iff_ne, bne_iff_ne]
            exact not_congr ⟨fun h => UInt8.toNat_inj.1 (by have : ((48 : UInt8).toNat : Int) = 48 := rfl; omega), fun h => by rw [h]; rfl⟩
          rw [L_size] at HR
          clear hc h1 h2
          cases b2
          · skip
            go_wp2
            go_ret
            exact ⟨ret_bool (by rw [HR.out]; simp <;> omega), HB.out⟩
          · by_cases h4 : s.size ≤ 4
            · rw [decide_eq_true h4] at HR
              go_wp2
              go_ret
              exact ⟨ret_bool (by rw [HR.out]; simp <;> omega), HB.out⟩
            · rw [decide_eq_false h4] at HR
              go_wp2
              go_ret
              exact ⟨ret_bool (by rw [HR.out]; simp <;> omega), HB.out⟩
        · clear h1
          go_wp2
          go_ret
          exact ⟨ret_bool (by rw [HR.out]; simp <;> omega), HB.out⟩
      · clear h1
        go_wp2
        go_ret
        exact ⟨ret_bool (by rw [HR.out]; simp <;> omega), HB.out⟩

set_option maxHeartbeats 1000000 in
theorem rnumber_any (s : ByteArray) (w : World) (hs : s.size ≤ maxLen) :
    Calls Tryz.prog 30 #[.string s] w fun e w' => e = .returned (.bool (numB (L s))) ∧ w = w' := by
  unfold maxLen at hs
  have C2 : Hid (∀ (W : World) (c : UInt8), Calls Tryz.prog 46 #[.int .u8 ((c.toNat : Nat) : Int)] W fun e w' => e = .returned (.bool (digB c)) ∧ W = w') := Lib.hid fun W c => (digit_any c W).mono fun e w' h => ⟨h.1, h.2.symm⟩
  obtain ⟨b0, h0⟩ : ∃ b, b = (L s == [48]) := ⟨_, rfl⟩
  have e0 : (s.toList == [48]) = b0 := by rw [h0, toList_L]
  have H0 := Lib.hid h0
  clear h0
  cases b0
  · go_enter Tryz.func30, Tryz.ntmps30
    go_wp2_with fail
    go_loop [3] (fun i => ∃ k : Nat, k ≤ s.size ∧ i = .int .i64 k ∧ digsTo (L s) k) (fun i => s.size - (intOf i).toNat)
    case atStart => exact ⟨0, Nat.zero_le _, rfl, fun i hi => by omega⟩
    case round =>
      obtain ⟨k, hk, rfl, hnm⟩ := hrel
      have HNM := Lib.hid hnm
      clear hnm
      by_cases hlt : k < s.size
      · have hidx := run_idx (P := Tryz.prog) Tryz.underlying9 s (k := .i64) (k : Int) k rfl hlt
        obtain ⟨r, hr⟩ : ∃ r, r = digB ((L s).getD k 0) := ⟨_, rfl⟩
        have HRR := Lib.hid hr
        obtain ⟨c, hc⟩ : ∃ c, c = (L s).getD k 0 := ⟨_, rfl⟩
        rw [← hc] at hidx hr
        have D2 := Lib.hid (fun W => C2.out W c)
        rw [← hr] at D2
        clear hc hr
        cases r
        · go_wp2_with fail
          refine (D2.out _).mono ?_
          rintro e w1 ⟨rfl, rfl⟩
          go_wp2
          go_ret
          exact ⟨ret_bool (num_no (l := L s) hlt HRR.out.symm).symm, rfl⟩
        · go_wp2_with fail
          refine (D2.out _).mono ?_
          rintro e w1 ⟨rfl, rfl⟩
          go_wp2
          go_round
          case rel => exact ⟨k + 1, by omega, by go_num, digsTo_succ HNM.out HRR.out.symm⟩
          case measure => simp [intOf]; omega
      · have HR := Lib.hid (num_yes (l := L s) (by rw [L_size]; exact fun i hi => HNM.out i (by omega)))
        rw [← H0.out] at HR
        by_cases hpos : 1 ≤ s.size
        · have h1 : (L s).isEmpty = false := by
            cases h : L s with
            | nil => have := L_size s; rw [h] at this; simp at this; omega
            | cons a l => rfl
          rw [h1] at HR
          have i0 := run_idx (P := Tryz.prog) (k := .i64) Tryz.underlying9 s (0 : Int) 0 rfl hpos
          obtain ⟨c, hc⟩ : ∃ c, c = (L s).getD 0 0 := ⟨_, rfl⟩
          rw [← hc] at HR i0
          obtain ⟨b2, h2⟩ : ∃ b, b = (c != 48) := ⟨_, rfl⟩
          rw [← h2] at HR
          have e2 : (((c.toNat : Nat) : Int) != 48) = b2 := by
            rw [h2, Bool.eq_iff_iff, bne_iff_ne, bne_iff_ne]
            exact not_congr ⟨fun h => UInt8.toNat_inj.1 (by have : ((48 : UInt8).toNat : Int) = 48 := rfl; omega), fun h => by rw [h]; rfl⟩
          rw [L_size] at HR
          clear hc h1 h2
          by_cases h4 : s.size ≤ 4
          · rw [decide_eq_true h4] at HR
            cases b2
            · go_wp2
              go_ret
              exact ⟨ret_bool (by rw [HR.out]; simp <;> omega), rfl⟩
            · go_wp2
              go_ret
              exact ⟨ret_bool (by rw [HR.out]; simp <;> omega), rfl⟩
          · rw [decide_eq_false h4] at HR
            go_wp2
            go_ret
            exact ⟨ret_bool (by rw [HR.out]; simp <;> omega), rfl⟩
        · have h1 : (L s).isEmpty = true := by
            cases h : L s with
            | nil => rfl
            | cons a l => have := L_size s; rw [h] at this; simp at this; omega
          rw [h1] at HR
          clear h1
          go_wp2
          go_ret
          exact ⟨ret_bool (by rw [HR.out]; simp <;> omega), rfl⟩
  · go_enter Tryz.func30, Tryz.ntmps30
    go_wp2
    go_ret
    exact ⟨ret_bool (by rw [show L s = [48] by simpa using H0.out.symm]; decide), rfl⟩
end Go.Proofs.YthfnkgofkdahfaaGreatDoor
