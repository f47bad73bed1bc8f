/-
  The walk of the program's Name.
-/
import Derived.Test.YtpgneaekflhgnaaDoorK3
namespace Go.Proofs.YtpgneaekflhgnaaDoor
open Go.RowKit

theorem nmB_iff (first : Bool) (c : UInt8) : nmB first c = true ↔ ((97 ≤ c.toNat ∧ c.toNat ≤ 122) ∨ (65 ≤ c.toNat ∧ c.toNat ≤ 90)) ∨ c.toNat = 95 ∨ (first = false ∧ 48 ≤ c.toNat ∧ c.toNat ≤ 57) := by
  have e : (c == 95) = true ↔ c.toNat = 95 := by
    rw [beq_iff_eq]
    exact ⟨fun h => by rw [h]; rfl, fun h => UInt8.toNat_inj.1 h⟩
  rw [nmB, Bool.or_eq_true, Bool.or_eq_true, lettB_iff, e, Bool.and_eq_true, digB_iff, or_assoc]
  cases first <;> simp

set_option maxHeartbeats 1000000 in
theorem name_any (s : ByteArray) (w : World) (hs : s.size ≤ maxLen) :
    Calls Tryd.prog 39 #[.string s] w fun e w' => e = .returned (.bool (nameL (L s))) ∧ Below w.heap.size w w' := by
  unfold maxLen at hs
  have HM := Lib.hid (BytesAt.made w 5 s)
  have HB := Lib.hid (below_bytesWorld w 5 s)
  obtain ⟨wb, hwb⟩ : ∃ wb, wb = Lib.bytesWorld w 5 s := ⟨_, rfl⟩
  rw [← hwb] at HM HB
  have HWB := Lib.hid hwb
  clear hwb
  go_enter Tryd.func39, Tryd.ntmps39
  go_wp2_with fail
  rw [← HWB.out]
  go_loopw [8] (fun i wr => ∃ k : Nat, k ≤ s.size ∧ i = .int .i64 k ∧ nmTo (L s) k ∧ wr = wb) (fun i _ => s.size - (intOf i).toNat)
  case atStart => exact ⟨0, Nat.zero_le _, rfl, fun i hi => by omega, rfl⟩
  case round =>
    obtain ⟨k, hk, rfl, hnm, rfl⟩ := hrel
    have HNM := Lib.hid hnm
    clear hnm
    by_cases hlt : k < s.size
    · have hcell := (HM.out k hlt).1
      obtain ⟨r, hr⟩ : ∃ r, r = nmB (k == 0) ((L s).getD k 0) := ⟨_, rfl⟩
      have HRR := Lib.hid hr
      obtain ⟨c, hc⟩ : ∃ c, c = (L s).getD k 0 := ⟨_, rfl⟩
      rw [← hc] at hcell hr
      have hiff := nmB_iff (k == 0) c
      rw [← hr] at hiff
      obtain ⟨v, hv⟩ : ∃ v, v = c.toNat := ⟨_, rfl⟩
      rw [← hv] at hcell hiff
      clear hc hr hv
      obtain ⟨z, hz⟩ : ∃ z, z = (k == 0) := ⟨_, rfl⟩
      rw [← hz] at hiff
      have hcls : v < 48 ∨ (48 ≤ v ∧ v ≤ 57) ∨ (58 ≤ v ∧ v ≤ 64) ∨ (65 ≤ v ∧ v ≤ 90) ∨ (91 ≤ v ∧ v ≤ 94) ∨ v = 95 ∨ v = 96 ∨ (97 ≤ v ∧ v ≤ 122) ∨ 123 ≤ v := by omega
      by_cases hk0 : k = 0
      · obtain rfl : z = true := by rw [hz, hk0]; rfl
        have hkg : ((k : Int) == 0) = true := by rw [hk0]; rfl
        have hit : r = true ↔ ((97 ≤ v ∧ v ≤ 122) ∨ (65 ≤ v ∧ v ≤ 90)) ∨ v = 95 := by rw [hiff]; simp
        clear hz hk0 hiff
        rcases hcls with h | ⟨h, h'⟩ | ⟨h, h'⟩ | ⟨h, h'⟩ | ⟨h, h'⟩ | h | h | ⟨h, h'⟩ | h
        all_goals
          first
            | (have e95 : (((v : Nat) : Int) != 95) = true := by rw [bne_iff_ne]; omega)
            | (have e95 : (((v : Nat) : Int) != 95) = false := by rw [bne_eq_false_iff_eq]; omega)
          first
            | (have HR : Hid (r = true) := Lib.hid (hit.2 (by omega)))
            | (have HR : Hid (r = false) := Lib.hid ((Bool.eq_false_or_eq_true r).elim (fun e => absurd (hit.1 e) (by omega)) id))
          clear hit
          go_wp2
          first
            | (go_ret
               exact ⟨ret_bool (name_no (l := L s) hlt (HRR.out.symm.trans HR.out)).symm, HB.out⟩)
            | (go_roundw
               case rel => exact ⟨k + 1, by omega, by go_num, nmTo_succ HNM.out (HRR.out.symm.trans HR.out), by first | trivial | rfl⟩
               case measure => simp [intOf]; omega)
      · obtain rfl : z = false := by rw [hz]; simpa using hk0
        have hkg : ((k : Int) == 0) = false := by rw [beq_eq_false_iff_ne]; omega
        have hit : r = true ↔ ((97 ≤ v ∧ v ≤ 122) ∨ (65 ≤ v ∧ v ≤ 90)) ∨ v = 95 ∨ (48 ≤ v ∧ v ≤ 57) := by rw [hiff]; simp
        clear hz hk0 hiff
        rcases hcls with h | ⟨h, h'⟩ | ⟨h, h'⟩ | ⟨h, h'⟩ | ⟨h, h'⟩ | h | h | ⟨h, h'⟩ | h
        all_goals
          first
            | (have e95 : (((v : Nat) : Int) != 95) = true := by rw [bne_iff_ne]; omega)
            | (have e95 : (((v : Nat) : Int) != 95) = false := by rw [bne_eq_false_iff_eq]; omega)
          first
            | (have HR : Hid (r = true) := Lib.hid (hit.2 (by omega)))
            | (have HR : Hid (r = false) := Lib.hid ((Bool.eq_false_or_eq_true r).elim (fun e => absurd (hit.1 e) (by omega)) id))
          clear hit
          go_wp2
          first
            | (go_ret
               exact ⟨ret_bool (name_no (l := L s) hlt (HRR.out.symm.trans HR.out)).symm, HB.out⟩)
            | (go_roundw
               case rel => exact ⟨k + 1, by omega, by go_num, nmTo_succ HNM.out (HRR.out.symm.trans HR.out), by first | trivial | rfl⟩
               case measure => simp [intOf]; omega)
    · have HR : Hid (nameL (L s) = !(L s).isEmpty) := Lib.hid (name_yes (by rw [L_size]; exact fun i hi => HNM.out i (by omega)))
      cases he : (L s).isEmpty with
      | true =>
        have e1 : s.toList.isEmpty = true := by rw [isEmpty_L]; exact he
        rw [he] at HR
        clear he
        go_wp2
        go_ret
        exact ⟨ret_bool HR.out.symm, HB.out⟩
      | false =>
        have e1 : s.toList.isEmpty = false := by rw [isEmpty_L]; exact he
        rw [he] at HR
        clear he
        go_wp2
        go_ret
        exact ⟨ret_bool HR.out.symm, HB.out⟩
end Go.Proofs.YtpgneaekflhgnaaDoor
