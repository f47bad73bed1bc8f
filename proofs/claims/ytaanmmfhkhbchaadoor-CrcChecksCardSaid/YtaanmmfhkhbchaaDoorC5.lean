/-
  The walks of the document's check and digits.
-/
import Derived.Test.YtaanmmfhkhbchaaDoorC4
import Derived.Test.YtaanmmfhkhbchaaDoorOwn
namespace Go.Proofs.YtaanmmfhkhbchaaDoor
open Go.Shelf Go.RowKit Go.Sort Go.Lib

/-- c % 2147483648 * 2. -/
theorem shl_mod (x : BitVec 32) : ((x.toNat : Int) % 2147483648 * 2) = (((x <<< 1).toNat : Nat) : Int) := by
  rw [BitVec.toNat_shiftLeft, Nat.shiftLeft_eq]; have := x.isLt; omega
theorem step_top (x : BitVec 32) (b : Bool) : bitS x b = if (x.msb != b) = true then (x <<< 1) ^^^ poly else x <<< 1 := by
  have h : ((x ^^^ top b) <<< 1) = x <<< 1 := by
    rw [BitVec.shiftLeft_xor_distrib]
    cases b
    · simp [top]
    · have : (top true) <<< 1 = 0#32 := by decide
      rw [this]; simp
  have hm : (x ^^^ top b).msb = (x.msb != b) := by
    rw [BitVec.msb_xor]
    cases b <;> cases x.msb <;> decide
  rw [bitS, step, hm, h]

theorem refBit_any (x : BitVec 32) (b : Bool) (w : World) :
    Calls Tryd.prog 17 #[.int .u32 ((x.toNat : Nat) : Int), .bool b] w fun e w' => e = .returned (.int .u32 (((bitS x b).toNat : Nat) : Int)) ∧ w' = w := by
  have hx := x.isLt
  have ht : decide ((2147483648 : Int) ≤ (x.toNat : Int)) = x.msb := by rw [BitVec.msb_eq_decide, decide_eq_decide]; omega
  have hs := step_top x b
  have hsm := shl_mod x
  obtain ⟨y, hy⟩ : ∃ y, y = x <<< 1 := ⟨_, rfl⟩
  rw [← hy] at hs hsm
  have hyl := y.isLt
  obtain ⟨r, hr⟩ : ∃ r, r = ((bitS x b).toNat : Int) := ⟨_, rfl⟩
  rw [← hr]
  rw [hs] at hr
  clear hs hy
  obtain ⟨n, hn⟩ : ∃ n, n = x.toNat := ⟨_, rfl⟩
  rw [← hn] at ht hsm hx
  rw [← hn]
  clear hn
  cases hm : x.msb with
  | true =>
    rw [hm] at ht hr
    have hge : (2147483648 : Int) ≤ (n : Int) := of_decide_eq_true ht
    cases b with
    | true =>
      rw [if_neg (by decide)] at hr
      have HR := Lib.hid hr
      clear hm ht hr
      go_enter Tryd.func17, Tryd.ntmps17
      go_wp2_with fail
      go_ret
      exact ⟨ret_int (by rw [HR.out]; omega), rfl⟩
    | false =>
      rw [if_pos (by decide)] at hr
      have HR := Lib.hid hr
      clear hm ht hr
      go_enter Tryd.func17, Tryd.ntmps17
      go_wp2_with fail
      go_ret
      exact ⟨ret_int (by rw [HR.out]; exact bits_xor_u32 _ _ (by omega) rfl), rfl⟩
  | false =>
    rw [hm] at ht hr
    have HX := Lib.hid hx
    clear hx
    cases b with
    | false =>
      rw [if_neg (by decide)] at hr
      have HR := Lib.hid hr
      clear hm hr
      go_enter Tryd.func17, Tryd.ntmps17
      go_wp2_with fail
      go_ret
      exact ⟨ret_int (by rw [HR.out]; omega), rfl⟩
    | true =>
      rw [if_pos (by decide)] at hr
      have HR := Lib.hid hr
      clear hm hr
      go_enter Tryd.func17, Tryd.ntmps17
      go_wp2_with fail
      go_ret
      exact ⟨ret_int (by rw [HR.out]; exact bits_xor_u32 _ _ (by omega) rfl), rfl⟩

theorem byteBits_drop (b : UInt8) {j : Nat} (h : j < 8) : (byteBits b).drop j = b.toNat.testBit (7 - j) :: (byteBits b).drop (j + 1) := by
  rcases (by omega : j = 0 ∨ j = 1 ∨ j = 2 ∨ j = 3 ∨ j = 4 ∨ j = 5 ∨ j = 6 ∨ j = 7) with rfl | rfl | rfl | rfl | rfl | rfl | rfl | rfl <;> rfl
theorem half_pow : ∀ j, j < 8 → 128 / 2 ^ j = 2 ^ (7 - j) ∧ 128 / 2 ^ j / 2 = 128 / 2 ^ (j + 1) ∧ 0 < 128 / 2 ^ j := by decide

theorem refByte_any (v : BitVec 32) (b : UInt8) (w : World) :
    Calls Tryd.prog 14 #[.int .u32 ((v.toNat : Nat) : Int), .int .u8 ((b.toNat : Nat) : Int)] w fun e w' => e = .returned (.int .u32 (((shiftS v b).toNat : Nat) : Int)) ∧ w' = w := by
  have hb := b.toNat_lt
  go_enter Tryd.func14, Tryd.ntmps14
  go_wp2_with fail
  go_loop [0, 5] (fun c i => ∃ (j K : Nat) (x : BitVec 32), j ≤ 8 ∧ K = 128 / 2 ^ j ∧ K ≤ 128 ∧ i = .int .i64 K ∧ c = .int .u32 ((x.toNat : Nat) : Int) ∧ ((byteBits b).drop j).foldl bitS x = shiftS v b) (fun _ i => (RowKit.intOf i).toNat)
  case atStart => exact ⟨0, 128, v, by omega, rfl, by omega, rfl, rfl, by rw [shift_bits]; rfl⟩
  case round =>
    obtain ⟨j, K, x, hj, hK, hK128, rfl, rfl, hx⟩ := hrel
    by_cases hlt : j < 8
    · obtain ⟨k1, k2, k3⟩ := half_pow j hlt
      rw [← hK] at k1 k2 k3
      rw [byteBits_drop b hlt, List.foldl_cons] at hx
      obtain ⟨Q, hQ⟩ : ∃ Q, Q = b.toNat / K := ⟨_, rfl⟩
      have hQ1 : ((b.toNat : Nat) : Int) / (K : Int) = (Q : Int) := by rw [hQ]; push_cast; rfl
      have hQ2 : Q ≤ 255 := by
        have := Nat.div_le_self b.toNat K
        omega
      have ht : ((Q : Int) % 2 == 1) = b.toNat.testBit (7 - j) := by
        rw [Nat.testBit_eq_decide_div_mod_eq, ← k1, ← hQ, Bool.eq_iff_iff, beq_iff_eq, decide_eq_true_iff]
        omega
      clear hQ
      obtain ⟨o, ho⟩ : ∃ o, o = b.toNat.testBit (7 - j) := ⟨_, rfl⟩
      rw [← ho] at ht hx
      have HX := Lib.hid hx
      have HK2 := Lib.hid k2
      have C := Lib.hid (fun w => refBit_any x o w)
      clear hx k1 k2 ho hK
      go_wp2_with fail
      refine (C.out _).mono ?_
      rintro e w1 ⟨rfl, rfl⟩
      go_wp2_with fail
      go_round
      case rel => exact ⟨j + 1, K / 2, _, by omega, HK2.out, by omega, by go_num, rfl, HX.out⟩
      case measure => simp [RowKit.intOf]; omega
    · obtain rfl : j = 8 := by omega
      have hK0 : K = 0 := by rw [hK]
      subst hK0
      have HX := Lib.hid (show x = shiftS v b from hx)
      clear hx hK
      go_wp2_with fail
      go_ret
      exact ⟨ret_int (by rw [HX.out]), rfl⟩

set_option maxHeartbeats 800000 in
theorem refOf_any (g cap : Nat) (bl : List UInt8) (w : World) (hbl : BytesAt w g bl) (hn : bl.length ≤ 1000000000) :
    Calls Tryd.prog 8 #[.slice (some ⟨g, 0, none⟩) bl.length cap] w fun e w' => e = .returned (.int .u32 (((sumS bl).toNat : Nat) : Int)) ∧ w' = w := by
  have HBL := Lib.hid hbl
  obtain ⟨r, hr⟩ : ∃ r, r = ((sumS bl).toNat : Int) := ⟨_, rfl⟩
  rw [← hr]
  have HR := Lib.hid hr
  clear hbl hr
  go_enter Tryd.func8, Tryd.ntmps8
  go_wp2_with fail
  go_loop [3, 4] (fun c i => ∃ (k : Nat) (x : BitVec 32), k ≤ bl.length ∧ i = .int .i64 k ∧ c = .int .u32 ((x.toNat : Nat) : Int) ∧ x = addS 0#32 (bl.take k)) (fun _ i => bl.length - (RowKit.intOf i).toNat)
  case atStart => exact ⟨0, 0#32, Nat.zero_le _, rfl, rfl, rfl⟩
  case round =>
    obtain ⟨k, x, hk, rfl, rfl, hx⟩ := hrel
    by_cases hlt : k < bl.length
    · have hcell := (HBL.out k hlt).1
      have hat := add_take hlt 0#32
      obtain ⟨c, hc⟩ : ∃ c, c = bl.getD k 0 := ⟨_, rfl⟩
      rw [← hc] at hcell hat
      rw [← hx] at hat
      have HAT := Lib.hid hat
      have C := Lib.hid (fun w => refByte_any x c w)
      clear hx hc hat
      go_wp2_with fail
      refine (C.out _).mono ?_
      rintro e w1 ⟨rfl, rfl⟩
      go_wp2_with fail
      go_round
      case rel => exact ⟨k + 1, _, by omega, by go_num, rfl, HAT.out.symm⟩
      case measure => simp [RowKit.intOf]; omega
    · obtain rfl : k = bl.length := by omega
      rw [List.take_length] at hx
      have HX := Lib.hid hx
      clear hx
      go_wp2_with fail
      go_loop [3, 5] (fun c i => ∃ (m : Nat) (y : BitVec 32), m ≤ bl.length ∧ i = .int .i64 m ∧ c = .int .u32 ((y.toNat : Nat) : Int) ∧ addS x (lenBytes bl.length) = addS y (lenBytes m)) (fun _ i => (RowKit.intOf i).toNat)
      case atStart => exact ⟨bl.length, x, Nat.le_refl _, rfl, rfl, rfl⟩
      case round =>
        obtain ⟨m, y, hm, rfl, rfl, hy⟩ := hrel
        have HY := Lib.hid hy
        clear hy
        by_cases hm0 : 0 < m
        · have hl := lenBytes_pos (show m ≠ 0 by omega)
          obtain ⟨c, hc⟩ : ∃ c : UInt8, c = UInt8.ofNat (m % 256) := ⟨_, rfl⟩
          have hcv : (m : Int) % 256 = ((c.toNat : Nat) : Int) := by rw [hc]; simp
          have hc256 := c.toNat_lt
          have HL : Hid (addS x (lenBytes bl.length) = addS (shiftS y c) (lenBytes (m / 256))) := Lib.hid (by rw [HY.out, hl, hc]; rfl)
          have C := Lib.hid (fun w => refByte_any y c w)
          clear hl hc
          go_wp2_with fail
          refine (C.out _).mono ?_
          rintro e w1 ⟨rfl, rfl⟩
          go_wp2_with fail
          go_round
          case rel => exact ⟨m / 256, _, by omega, by go_num, rfl, HL.out⟩
          case measure => simp [RowKit.intOf]; omega
        · obtain rfl : m = 0 := by omega
          have hyl := y.isLt
          have HL : Hid (r = 4294967295 - (y.toNat : Int)) := Lib.hid (by
            have h1 : addS x (lenBytes bl.length) = y := by rw [HY.out, lenBytes_zero]; rfl
            rw [HR.out, sumS, ← HX.out, h1, BitVec.toNat_not]; omega)
          go_wp2_with fail
          go_ret
          exact ⟨ret_int (by rw [HL.out]; try omega), rfl⟩

theorem dec_small {m : Nat} (h : m < 10) : decDigits m = [UInt8.ofNat (48 + m)] := decDigits_one h
theorem dec_big {m : Nat} (h : ¬ m < 10) : decDigits m = decDigits (m / 10) ++ [UInt8.ofNat (48 + m % 10)] := by rw [decDigits, dif_neg h]

set_option maxHeartbeats 800000 in
theorem refDigits_any (u : Nat) (hu : u < 18446744073709551616) (w : World) :
    Calls Tryd.prog 12 #[.int .u64 u] w fun e w' => e = .returned (.string (S (decDigits u))) ∧ Below w.heap.size w w' := by
  have hd20 : (decDigits u).length ≤ 20 := by rw [decDigits_length]; exact nDigits_le20 u hu
  have HD := Lib.hid hd20
  clear hd20
  have HU := Lib.hid hu
  clear hu
  go_enter Tryd.func12, Tryd.ntmps12
  go_wp2_with fail
  go_loopw [0, 3] (fun n o wr => ∃ (m : Nat) (t : ByteArray), m ≤ u ∧ n = .int .u64 m ∧ o = .string t ∧ decDigits u = decDigits m ++ L t ∧ Below w.heap.size w wr) (fun n _ _ => (RowKit.intOf n).toNat)
  case atStart => exact ⟨u, ⟨#[]⟩, Nat.le_refl _, rfl, rfl, by rw [show L ⟨#[]⟩ = [] from rfl, List.append_nil], Below.refl _ _⟩
  case round =>
    obtain ⟨m, t, hmu, rfl, rfl, hd, hbw⟩ := hrel
    have hbs := hbw.size
    have hts : t.size ≤ 20 := by
      have h1 := HD.out
      rw [hd, List.length_append, L_size] at h1
      omega
    by_cases hm : 10 ≤ m
    · rw [dec_big (m := m) (by omega)] at hd
      have HD2 := Lib.hid hd
      have hw : IntKind.u64.wrap ((m : Int) / 10) = ((m / 10 : Nat) : Int) := by
        have := HU.out
        rw [IntKind.wrap_u64]; omega
      have HW := Lib.hid hw
      have HM := Lib.hid hmu
      clear hd hw hmu
      go_wp2_with fail
      go_roundw
      case rel =>
        refine ⟨m / 10, _, by have := HM.out; omega, congrArg (Value.int .u64) HW.out, rfl, ?_, hbw.trans ((Below.alloc (Below.refl _ _) (Nat.le_refl _) _).mono hbs)⟩
        rw [HD2.out, L_append, List.append_assoc]
        simp
      case measure =>
        rw [HW.out]
        simp [RowKit.intOf]; omega
    · rw [dec_small (m := m) (by omega)] at hd
      have HD2 := Lib.hid hd
      clear hd
      go_wp2_with fail
      go_ret
      refine ⟨ret_string ?_, hbw.trans ((Below.alloc (Below.refl _ _) (Nat.le_refl _) _).mono hbs)⟩
      apply L_inj
      rw [L_S, HD2.out, L_append]
      simp
end Go.Proofs.YtaanmmfhkhbchaaDoor
