/-
  The walk of the statement CrcBursts.
-/
import Derived.Test.YtaanmmfhkhbchaaDoorC3
import Derived.Lib.QuietBelow
import Derived.BigQuiet
namespace Go.Proofs.YtaanmmfhkhbchaaDoor
open Go.RowKit

@[go_sem] theorem Tryd.convK (w : World) (b off l c : Nat) : (convert 24 9 (.slice (some ⟨b, off, none⟩) l c)).run Tryd.prog w = convK (cellBytes w b off l) w (convFb Tryd.prog w 24 9 b off l c) :=
  run_convK 24 9 5 Tryd.underlying24 Tryd.underlying5 Tryd.underlying9 w b off l c

theorem bits_and_mask1 (x : Int) : bits BinOp.and .u32 x 1 = x % 2 := bits_and_mask .u32 1 (by decide) x
attribute [go_sem] bits_and_mask1

theorem flip_test (f j : Nat) : ((f : Int) / 2 ^ j % 2 == 1) = f.testBit j := by
  rw [Nat.testBit_eq_decide_div_mod_eq, Bool.eq_iff_iff, beq_iff_eq, decide_eq_true_iff]
  have e : (f : Int) / 2 ^ j % 2 = ((f / 2 ^ j % 2 : Nat) : Int) := by push_cast; rfl
  rw [e]; omega

theorem bitAt_bit : ∀ m, m < 8 → ∀ r, r < 8 → (128 / 2 ^ m).testBit (7 - r) = decide (r = m) := by decide

theorem bitB_set {bl : List UInt8} {k p : Nat} (hk : k / 8 < bl.length) : bitB (bl.set (k / 8) (bl.getD (k / 8) 0 ^^^ bitAt k)) p = (bitB bl p ^^ decide (p = k)) := by
  rw [bitB, bitB]
  by_cases h : p / 8 = k / 8
  · have e1 : (bl.set (k / 8) (bl.getD (k / 8) 0 ^^^ bitAt k)).getD (p / 8) 0 = bl.getD (p / 8) 0 ^^^ bitAt k := by
      rw [h]; simp [List.getD, hk]
    have e2 : (bitAt k).toNat = 128 / 2 ^ (k % 8) := by
      have : (128 / 2 ^ (k % 8) : Nat) < 256 := Nat.lt_of_le_of_lt (Nat.div_le_self _ _) (by omega)
      simp [bitAt]; omega
    rw [e1, UInt8.toNat_xor, Nat.testBit_xor, e2, bitAt_bit (k % 8) (by omega) (p % 8) (by omega)]
    congr 1
    rw [decide_eq_decide]; omega
  · have e1 : (bl.set (k / 8) (bl.getD (k / 8) 0 ^^^ bitAt k)).getD (p / 8) 0 = bl.getD (p / 8) 0 := by
      simp only [List.getD]; rw [List.getElem?_set_ne (by omega)]
    rw [e1, decide_eq_false (by intro e; apply h; rw [e])]
    simp

/-- The bits of the bytes in which the first j flips are done. -/
def Flipped (l bl : List UInt8) (q f j : Nat) : Prop := bl.length = l.length ∧ ∀ p, p < 8 * l.length → bitB bl p = (bitB l p ^^ (decide (q ≤ p) && decide (p < q + j) && f.testBit (p - q)))
theorem Flipped.zero (l : List UInt8) (q f : Nat) : Flipped l l q f 0 := ⟨rfl, fun p _ => by
  by_cases h : q ≤ p
  · rw [decide_eq_false (show ¬ p < q + 0 by omega)]; simp
  · rw [decide_eq_false h]; simp⟩
theorem Flipped.yes {l bl : List UInt8} {q f j : Nat} (h : Flipped l bl q f j) (hq : (q + j) / 8 < l.length) (hb : f.testBit j = true) : Flipped l (bl.set ((q + j) / 8) (bl.getD ((q + j) / 8) 0 ^^^ bitAt (q + j))) q f (j + 1) := by
  obtain ⟨h1, h2⟩ := h
  refine ⟨by rw [List.length_set]; exact h1, fun p hp => ?_⟩
  rw [bitB_set (by rw [h1]; exact hq), h2 p hp]
  by_cases e : p = q + j
  · subst e
    rw [show q + j - q = j by omega, hb, decide_eq_true (show q ≤ q + j by omega), decide_eq_false (show ¬ q + j < q + j by omega), decide_eq_true (show q + j < q + (j + 1) by omega)]
    simp
  · have : decide (p < q + (j + 1)) = decide (p < q + j) := by rw [decide_eq_decide]; omega
    rw [this]; simp [e]
theorem Flipped.no {l bl : List UInt8} {q f j : Nat} (h : Flipped l bl q f j) (hb : f.testBit j = false) : Flipped l bl q f (j + 1) := by
  obtain ⟨h1, h2⟩ := h
  refine ⟨h1, fun p hp => ?_⟩
  rw [h2 p hp]
  by_cases e : p = q + j
  · subst e
    rw [show q + j - q = j by omega, hb]; simp
  · have : decide (p < q + (j + 1)) = decide (p < q + j) := by rw [decide_eq_decide]; omega
    rw [this]

set_option maxRecDepth 100000 in
set_option maxHeartbeats 2000000 in
theorem bursts_any (s : ByteArray) (at0 fl : Int) (w : World) (hs0 : s.size ≤ maxLen) (htab : Tab w) (hf1 : 0 ≤ fl) (hf2 : fl ≤ 4294967295) :
    Calls Tryd.prog 3 #[.string s, .int .i64 at0, .int .u32 fl] w fun e w' => e = .returned (.bool true) ∧ Below w.heap.size w w' := by
  unfold maxLen at hs0
  obtain ⟨f, rfl⟩ := Int.eq_ofNat_of_zero_le hf1
  have CA := Lib.hid (anchor_any w htab)
  clear htab hf1
  by_cases hc : s.size ≤ 3000 ∧ f ≠ 0 ∧ 0 ≤ at0 ∧ at0 ≤ 8 * (s.size : Int) - 32
  · obtain ⟨h1, h2, h3, h4⟩ := hc
    obtain ⟨q, rfl⟩ := Int.eq_ofNat_of_zero_le h3
    have hf0 : ((f : Int) == 0) = false := by rw [beq_eq_false_iff_ne]; omega
    have HF := Lib.hid (show f ≠ 0 ∧ f < 4294967296 from ⟨h2, by omega⟩)
    have hq : q + 32 ≤ 8 * s.size := by omega
    have H1 := Lib.hid h1
    clear h2 h3 hf2
    go_enter Tryd.func3, Tryd.ntmps3
    go_wp2_with fail
    refine CA.out.mono ?_
    rintro e w1 ⟨rfl, hb1⟩
    have hb1s := hb1.size
    have hz := Lib.bytesWorld_size w1 5 s
    have hbw := hb1.trans ((below_bytesWorld w1 5 s).mono hb1s)
    have hbm := BytesAt.made w1 5 s
    have HBW := Lib.hid hbw
    have HBM := Lib.hid hbm
    clear hbw hbm hb1
    go_wp2_with fail
    go_loopw [32] (fun i wr => ∃ (j : Nat) (bl : List UInt8), j ≤ 32 ∧ i = .int .i64 j ∧ Flipped (L s) bl q f j ∧ BytesAt wr w1.heap.size bl ∧ Below w.heap.size w wr ∧ w1.heap.size < wr.heap.size) (fun i _ => 32 - (intOf i).toNat)
    case atStart => exact ⟨0, L s, by omega, rfl, Flipped.zero _ _ _, HBM.out, HBW.out, by rw [hz]; omega⟩
    case round =>
      obtain ⟨j, bl, hj, rfl, hfp, hba, hbr, hsz⟩ := hrel
      have HFP := Lib.hid hfp
      have HBA := Lib.hid hba
      have hbl : bl.length = s.size := hfp.1
      have HBL := Lib.hid hbl
      clear hfp hba hz hbl
      by_cases hlt : j < 32
      · have hidx : (q + j) / 8 < s.size := by omega
        have hcell := (HBA.out ((q + j) / 8) (by rw [HBL.out]; exact hidx)).1
        have hfz := (HBA.out ((q + j) / 8) (by rw [HBL.out]; exact hidx)).2
        have hft := flip_test f j
        cases hb : f.testBit j with
        | true =>
          rw [hb] at hft
          have HFP2 := Lib.hid (HFP.out.yes (show (q + j) / 8 < (L s).length from hidx) hb)
          clear hb
          go_wp2_with fail
          go_roundw
          case rel =>
            refine ⟨j + 1, _, by omega, by go_num, HFP2.out, ?_, hbr.setCell (by omega) _, by simpa using hsz⟩
            exact HBA.out.set (by rw [HBL.out]; exact hidx) (bits_xor_u8 _ _ (by simp) (bitAt_int _))
          case measure => simp [intOf]; omega
        | false =>
          rw [hb] at hft
          have HFP2 := Lib.hid (HFP.out.no hb)
          clear hb
          go_wp2_with fail
          go_roundw
          case rel => exact ⟨j + 1, bl, by omega, by go_num, HFP2.out, HBA.out, hbr, hsz⟩
          case measure => simp [intOf]; omega
      · obtain rfl : j = 32 := by omega
        have hlaw := burst_law (l := L s) (bl := bl) (a := q) (fl := f) HFP.out.1 (by rw [L_size]; exact hq) HF.out.1 HF.out.2 HFP.out.2
        obtain ⟨x, hx⟩ : ∃ x, x = (sumS (L s)).toNat := ⟨_, rfl⟩
        obtain ⟨y, hy⟩ : ∃ y, y = (sumS bl).toNat := ⟨_, rfl⟩
        have htest : ((x : Int) != (y : Int)) = true := by
          rw [bne_iff_ne, hx, hy]
          intro e
          exact hlaw (BitVec.eq_of_toNat_eq (by omega))
        have hcb : ∀ d os, cellBytes (Sort.grow (redrawn wr d) os) w1.heap.size 0 s.size = some bl := fun d os => (HBA.out.below (below_regrown wr d os) hsz).bytes HBL.out
        have c1 := fun d os => Calls.regrown_of (w := wr) (d := d) (os := os) (of_any s (Sort.grow (redrawn wr d) os) (by have := H1.out; omega))
        have c2 := fun d os => Calls.regrown_of (w := wr) (d := d) (os := os) (of_any ⟨bl.toArray⟩ (Sort.grow (redrawn wr d) os) (by show bl.length ≤ _; rw [HBL.out]; have := H1.out; omega))
        rw [← hx] at c1
        rw [show sumS (L ⟨bl.toArray⟩) = sumS bl from rfl, ← hy] at c2
        have C1 := Lib.hid c1
        have C2 := Lib.hid c2
        clear hlaw hx hy c1 c2
        go_wp2
        refine wp_region_quiet_below (by kernel_rfl) (by kernel_rfl) ?_
        repeat (go_big_quiet_step (with_reducible first | exact C1.out _ _ | exact C2.out _ _))
        refine wpQuiet_nil ?_
        intro _ hw'
        obtain ⟨⟨dq, osq⟩, hw''⟩ := hw'
        subst hw''
        have hbq := hbr.trans ((below_regrown wr dq osq).mono hbr.size)
        clear hcb
        go_wp2
        go_ret
        exact ⟨rfl, hbq⟩
  · skip
    by_cases k1 : s.size ≤ 3000
    · by_cases k2 : f = 0
      · have hf0 : ((f : Int) == 0) = true := by rw [beq_iff_eq]; omega
        clear hc k2
        go_enter Tryd.func3, Tryd.ntmps3
        go_wp2_with fail
        refine CA.out.mono ?_
        rintro e w1 ⟨rfl, hb1⟩
        go_wp2_with fail
        go_ret
        exact ⟨rfl, hb1⟩
      · have hf0 : ((f : Int) == 0) = false := by rw [beq_eq_false_iff_ne]; omega
        by_cases k3 : at0 < 0
        · clear hc k2
          go_enter Tryd.func3, Tryd.ntmps3
          go_wp2_with fail
          refine CA.out.mono ?_
          rintro e w1 ⟨rfl, hb1⟩
          go_wp2_with fail
          go_ret
          exact ⟨rfl, hb1⟩
        · have k4 : 8 * (s.size : Int) - 32 < at0 := by omega
          have k5 : 0 ≤ at0 := by omega
          clear hc k2 k3
          go_enter Tryd.func3, Tryd.ntmps3
          go_wp2_with fail
          refine CA.out.mono ?_
          rintro e w1 ⟨rfl, hb1⟩
          go_wp2_with fail
          go_ret
          exact ⟨rfl, hb1⟩
    · clear hc
      go_enter Tryd.func3, Tryd.ntmps3
      go_wp2_with fail
      refine CA.out.mono ?_
      rintro e w1 ⟨rfl, hb1⟩
      go_wp2_with fail
      go_ret
      exact ⟨rfl, hb1⟩
end Go.Proofs.YtaanmmfhkhbchaaDoor
