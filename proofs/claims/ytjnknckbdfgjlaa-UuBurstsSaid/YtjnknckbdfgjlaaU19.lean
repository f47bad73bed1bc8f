/-
  The walk of the statement UuBursts.
-/
import Derived.Test.YtjnknckbdfgjlaaU18
import Derived.Test.YtjnknckbdfgjlaaU10
import Derived.Test.YtjnknckbdfgjlaaU8
namespace Go.Proofs.Ytjnknckbdfgjlaa
open Go.RowKit

@[go_sem] theorem bits_xor_cast (u v : UInt8) : bits BinOp.xor .u8 ((u.toNat : Nat) : Int) ((v.toNat : Nat) : Int) = (((u ^^^ v).toNat : Nat) : Int) := bits_xor_u8 u v rfl rfl
@[go_sem] theorem bits_and_1 (x : Int) : bits BinOp.and .u8 x 1 = x % 2 := bits_and_mask .u8 1 (by decide) x

theorem xor_bit (u v : UInt8) (r : Nat) : (u ^^^ v).toNat / 2 ^ r % 2 = 1 ↔ u.toNat / 2 ^ r % 2 ≠ v.toNat / 2 ^ r % 2 := by
  have h : ∀ x : Nat, x.testBit r = decide (x / 2 ^ r % 2 = 1) := fun x => Nat.testBit_eq_decide_div_mod_eq
  have h1 := h (u ^^^ v).toNat
  rw [UInt8.toNat_xor, Nat.testBit_xor, h, h] at h1
  have a1 := Nat.mod_two_eq_zero_or_one (u.toNat / 2 ^ r)
  have a2 := Nat.mod_two_eq_zero_or_one (v.toNat / 2 ^ r)
  have a3 := Nat.mod_two_eq_zero_or_one ((u ^^^ v).toNat / 2 ^ r)
  rw [UInt8.toNat_xor] at a3 ⊢
  rcases a1 with e1 | e1 <;> rcases a2 with e2 | e2 <;> rcases a3 with e3 | e3 <;> simp [e1, e2, e3] at h1 ⊢

theorem xor_bitOf (d l : List UInt8) (j r : Nat) (hr : 7 - (j : Int) % 8 = (r : Int)) (b : Bool) (hb : decide (bitOf d j ≠ bitOf l j) = b) :
    ((((d.getD (j / 8) 0).toNat ^^^ (l.getD (j / 8) 0).toNat : Nat) : Int) / 2 ^ r % 2 == 1) = b := by
  rw [← UInt8.toNat_xor]
  have e : r = 7 - j % 8 := by omega
  have h := xor_bit (d.getD (j / 8) 0) (l.getD (j / 8) 0) r
  have e2 : (((d.getD (j / 8) 0 ^^^ l.getD (j / 8) 0).toNat : Nat) : Int) / 2 ^ r % 2 = (((d.getD (j / 8) 0 ^^^ l.getD (j / 8) 0).toNat / 2 ^ r % 2 : Nat) : Int) := by push_cast; rfl
  rw [e2, ← hb, bitOf, bitOf, ← e]
  rw [Bool.eq_iff_iff, decide_eq_true_iff, beq_iff_eq, ← h]
  omega

set_option maxRecDepth 100000 in
set_option maxHeartbeats 2000000 in
theorem bursts_any (s : ByteArray) (at0 fl : Int) (w : World) (hs : s.size ≤ maxLen) (hv : Held w) (_hf1 : 0 ≤ fl) (_hf2 : fl ≤ 4294967295) :
    Calls Try.prog 6 #[.string s, .int .i64 at0, .int .u32 fl] w fun e w' => e = .returned (.bool true) ∧ Below w.heap.size w w' := by
  unfold maxLen at hs
  have HV := Lib.hid hv
  have w0pos := hv.2
  clear hv
  by_cases hc : 6 ≤ s.size ∧ s.size ≤ 45 ∧ fl ≠ 0
  · obtain ⟨h1, h2, h3⟩ := hc
    obtain ⟨K, hK⟩ : ∃ K, K = (s.size + 2) / 3 := ⟨_, rfl⟩
    obtain ⟨T, hT⟩ : ∃ T, T = S (lineL (L s)) := ⟨_, rfl⟩
    have hTs : T.size = 4 * K + 2 := by rw [hT, S_size, lineL_len, L_size, hK]
    have HT := Lib.hid hT
    have HK := Lib.hid hK
    have HTS := Lib.hid hTs
    have hT1 : T.size ≤ 62 := by omega
    have hf0 : (fl == 0) = false := by rw [beq_eq_false_iff_ne]; exact h3
    clear hT hK hTs h3
    by_cases hq : 8 ≤ at0 ∧ at0 ≤ 8 * ((T.size : Int) - 1) - 32
    · obtain ⟨q1, q2⟩ := hq
      obtain ⟨q, rfl⟩ := Int.eq_ofNat_of_zero_le (by omega : 0 ≤ at0)
      go_enter Try.func6, Try.ntmps6
      go_wp2_with fail
      refine (anchor_any _).mono ?_
      rintro e w1 ⟨rfl, hb1⟩
      go_wp2_with fail
      refine (refLine_any s _ h2).mono ?_
      rw [← HT.out]
      rintro e w2 ⟨rfl, hb2⟩
      have hb3 := hb1.trans (hb2.mono hb1.size)
      clear hb1 hb2
      have hb3s := hb3.size
      have hz := Lib.bytesWorld_size w2 5 T
      have hbw := hb3.trans ((below_bytesWorld w2 5 T).mono hb3s)
      have hbm := BytesAt.made w2 5 T
      have HBW := Lib.hid hbw
      have HBM := Lib.hid hbm
      clear hbw hbm
      go_wp2_with fail
      go_loopw [44] (fun i wr => ∃ (j : Nat) (bl : List UInt8), j ≤ 32 ∧ i = .int .i64 j ∧ bl.length = T.size ∧ (∀ i, (i < q / 8 ∨ (q + 31) / 8 < i) → bl[i]? = (L T)[i]?) ∧ BytesAt wr w2.heap.size bl ∧ Below w.heap.size w wr ∧ w2.heap.size < wr.heap.size) (fun i _ => 32 - (intOf i).toNat)
      case atStart => exact ⟨0, L T, by omega, rfl, rfl, fun _ _ => rfl, HBM.out, HBW.out, by rw [hz]; omega⟩
      case round =>
        obtain ⟨j, bl, hj, rfl, hbl, hsame, hba, hbr, hsz⟩ := hrel
        have HBL := Lib.hid hbl
        have HSA := Lib.hid hsame
        have HBA := Lib.hid hba
        clear hbl hsame hba hz
        by_cases hlt : j < 32
        · have hidx : (q + j) / 8 < T.size := by omega
          have hcell := (HBA.out ((q + j) / 8) (by rw [HBL.out]; exact hidx)).1
          have hfz := (HBA.out ((q + j) / 8) (by rw [HBL.out]; exact hidx)).2
          go_wp2_with fail
          · go_roundw
            case rel =>
              refine ⟨j + 1, bl.set ((q + j) / 8) ((bl.getD ((q + j) / 8) 0) ^^^ bitAt (q + j)), by omega, by go_num, by rw [List.length_set]; exact HBL.out, fun i hi => ?_, ?_, hbr.setCell (by omega) _, by simpa using hsz⟩
              · rw [List.getElem?_set_ne (by omega)]; exact HSA.out i hi
              · exact HBA.out.set (by rw [HBL.out]; exact hidx) (bits_xor_u8 _ _ (by simp) (bitAt_int _))
            case measure => simp [intOf]; omega
          · go_roundw
            case rel => exact ⟨j + 1, bl, by omega, by go_num, HBL.out, HSA.out, HBA.out, hbr, hsz⟩
            case measure => simp [intOf]; omega
        · have hcb := HBA.out.bytes HBL.out
          have hbls : bl.length ≤ 62 := by rw [HBL.out]; exact hT1
          have hll : (L s).length = s.size := rfl
          have hall := burst_all (l := L s) (bl := bl) (K := K) (a := q / 8) (b := (q + 31) / 8) ⟨h1, h2⟩ HK.out (by rw [HBL.out, HTS.out]) (by omega) (by have := HTS.out; omega) (by omega) (fun i hi => by rw [HSA.out i hi, HT.out, L_S])
          have HALL := Lib.hid hall
          clear hall hll
          rcases HALL.out with hn | ⟨d, hd, hdl, hdb⟩
          · have hD : decodeP (L (⟨#[98, 101, 103, 105, 110, 32, 54, 52, 52, 32, 120, 10]⟩ ++ ⟨bl.toArray⟩ ++ ⟨#[96, 10, 101, 110, 100, 10]⟩)) = none := by rw [L_append, L_append]; exact hn
            have HD := Lib.hid hD
            clear hn hD
            go_wp2_with fail
            refine (decode_any _ _ (by rw [← L_size, L_append, L_append]; simp; omega) (HV.out.below w0pos hbr)).mono ?_
            rw [HD.out]
            simp only [decV]
            rintro e w3 ⟨rfl, hb4⟩
            go_wp2_with fail
            go_ret
            exact ⟨rfl, hbr.trans (hb4.mono hbr.size)⟩
          · have hD : decodeP (L (⟨#[98, 101, 103, 105, 110, 32, 54, 52, 52, 32, 120, 10]⟩ ++ ⟨bl.toArray⟩ ++ ⟨#[96, 10, 101, 110, 100, 10]⟩)) = some (420, [120], d) := by rw [L_append, L_append]; exact hd
            obtain ⟨D, hDD⟩ : ∃ D, D = S d := ⟨_, rfl⟩
            have hDs : D.size = s.size := by rw [hDD, S_size, hdl]; rfl
            have htest : ((D.size : Int) != (s.size : Int)) = false := by rw [hDs]; simp
            have hLD : L D = d := by rw [hDD]; rfl
            obtain ⟨W0, hW0⟩ : ∃ W0 : Nat, W0 = 6 * (q / 8 - 1) := ⟨_, rfl⟩
            have hW1 : W0 ≤ 400 := by omega
            rw [← hW0] at hdb
            have HD := Lib.hid hD
            have HDD := Lib.hid hDD
            have HDB := Lib.hid hdb
            have HDS := Lib.hid hDs
            have HLD := Lib.hid hLD
            clear hd hD hDD hdb hdl hDs hLD hW0
            go_wp2_with fail
            refine (decode_any _ _ (by rw [← L_size, L_append, L_append]; simp; omega) (HV.out.below w0pos hbr)).mono ?_
            rw [HD.out]
            simp only [decV]
            rw [← HDD.out]
            rintro e w3 ⟨rfl, hb4⟩
            have hb5 := hbr.trans (hb4.mono hbr.size)
            clear hb4 HBA HBL HSA hcb
            go_wp2_with fail
            go_loopw [13, 14, 89] (fun f l i wr => ∃ (j : Nat) (f' l' : Int), j ≤ 8 * s.size ∧ f = .int .i64 f' ∧ l = .int .i64 l' ∧ i = .int .i64 j ∧ ((f' = -1 ∧ l' = -1) ∨ ((W0 : Int) ≤ f' ∧ f' ≤ W0 + 29 ∧ W0 ≤ l' ∧ l' ≤ W0 + 29)) ∧ Below w.heap.size w wr) (fun _ _ i _ => 8 * s.size - (intOf i).toNat)
            case atStart => exact ⟨0, -1, -1, by omega, rfl, rfl, rfl, .inl ⟨rfl, rfl⟩, hb5⟩
            case round =>
              obtain ⟨j, f', l', hj, rfl, rfl, rfl, hfl, hbx⟩ := hrel
              by_cases hlt : j < 8 * s.size
              · have hj8 : j / 8 < s.size := by omega
                have i0 := run_idx (P := Try.prog) (k := .i64) Try.underlying9 D ((j : Int) / 8) (j / 8) (by omega) (by rw [HDS.out]; exact hj8)
                have i1 := run_idx (P := Try.prog) (k := .i64) Try.underlying9 s ((j : Int) / 8) (j / 8) (by omega) hj8
                obtain ⟨r, hr⟩ : ∃ r : Nat, 7 - (j : Int) % 8 = (r : Int) := ⟨7 - j % 8, by omega⟩
                have hr7 : r ≤ 7 := by omega
                obtain ⟨A, hA⟩ : ∃ A, A = (L D).getD (j / 8) 0 := ⟨_, rfl⟩
                obtain ⟨B, hB⟩ : ∃ B, B = (L s).getD (j / 8) 0 := ⟨_, rfl⟩
                rw [← hA] at i0
                rw [← hB] at i1
                have HA := Lib.hid hA
                have HB := Lib.hid hB
                clear hA hB
                by_cases hbit : bitOf (L D) j ≠ bitOf (L s) j
                · have hx := xor_bitOf (L D) (L s) j r hr true (decide_eq_true hbit)
                  have hwin := HDB.out j (by rw [L_size]; exact hlt) (by rw [← HLD.out]; exact hbit)
                  have HWIN := Lib.hid hwin
                  rw [← HA.out, ← HB.out] at hx
                  have HX := Lib.hid hx
                  clear hbit hwin hx
                  go_wp2_with fail
                  go_quiet (fail)
                  have hx := HX.out
                  go_wp2_with fail
                  · go_roundw
                    case rel => exact ⟨j + 1, j, j, by omega, rfl, rfl, by go_num, .inr (by have := HWIN.out; omega), below_drewN hbx nq⟩
                    case measure => simp [intOf]; omega
                  · go_roundw
                    case rel => exact ⟨j + 1, f', j, by omega, rfl, rfl, by go_num, .inr (by have := HWIN.out; omega), below_drewN hbx nq⟩
                    case measure => simp [intOf]; omega
                · have hx := xor_bitOf (L D) (L s) j r hr false (decide_eq_false hbit)
                  rw [← HA.out, ← HB.out] at hx
                  have HX := Lib.hid hx
                  clear hbit hx
                  go_wp2_with fail
                  go_quiet (fail)
                  have hx := HX.out
                  go_wp2_with fail
                  go_roundw
                  case rel => exact ⟨j + 1, f', l', by omega, rfl, rfl, by go_num, hfl, below_drewN hbx nq⟩
                  case measure => simp [intOf]; omega
              · go_wp2_with fail
                · go_ret
                  exact ⟨ret_bool (by first | rfl | (simp; done) | (simp; omega)), hbx⟩
                · go_ret
                  exact ⟨ret_bool (by first | rfl | (simp; done) | (simp; omega)), hbx⟩
    · have hq' : at0 < 8 ∨ (8 ≤ at0 ∧ 8 * ((T.size : Int) - 1) - 32 < at0) := by omega
      clear hq
      rcases hq' with hq | ⟨hq, hq2⟩
      · skip
        go_enter Try.func6, Try.ntmps6
        go_wp2_with fail
        refine (anchor_any _).mono ?_
        rintro e w1 ⟨rfl, hb1⟩
        go_wp2_with fail
        refine (refLine_any s _ h2).mono ?_
        rw [← HT.out]
        rintro e w2 ⟨rfl, hb2⟩
        have hb3 := hb1.trans (hb2.mono hb1.size)
        have hbw := hb3.trans ((below_bytesWorld w2 5 T).mono hb3.size)
        clear hb1 hb2
        go_wp2_with fail
        go_ret
        exact ⟨rfl, hbw⟩
      · skip
        go_enter Try.func6, Try.ntmps6
        go_wp2_with fail
        refine (anchor_any _).mono ?_
        rintro e w1 ⟨rfl, hb1⟩
        go_wp2_with fail
        refine (refLine_any s _ h2).mono ?_
        rw [← HT.out]
        rintro e w2 ⟨rfl, hb2⟩
        have hb3 := hb1.trans (hb2.mono hb1.size)
        have hbw := hb3.trans ((below_bytesWorld w2 5 T).mono hb3.size)
        clear hb1 hb2
        go_wp2_with fail
        go_ret
        exact ⟨rfl, hbw⟩
  · by_cases h1 : s.size < 6
    · skip
      clear hc
      go_enter Try.func6, Try.ntmps6
      go_wp2_with fail
      refine (anchor_any _).mono ?_
      rintro e w1 ⟨rfl, hb1⟩
      go_wp2_with fail
      go_ret
      exact ⟨rfl, hb1⟩
    · by_cases h2 : 45 < s.size
      · skip
        clear hc
        go_enter Try.func6, Try.ntmps6
        go_wp2_with fail
        refine (anchor_any _).mono ?_
        rintro e w1 ⟨rfl, hb1⟩
        go_wp2_with fail
        go_ret
        exact ⟨rfl, hb1⟩
      · have hf0 : (fl == 0) = true := by rw [beq_iff_eq]; omega
        clear hc
        go_enter Try.func6, Try.ntmps6
        go_wp2_with fail
        refine (anchor_any _).mono ?_
        rintro e w1 ⟨rfl, hb1⟩
        go_wp2_with fail
        go_ret
        exact ⟨rfl, hb1⟩
end Go.Proofs.Ytjnknckbdfgjlaa
