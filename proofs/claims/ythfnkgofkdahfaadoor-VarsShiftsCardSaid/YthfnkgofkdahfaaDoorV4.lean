/-
  The walk of VarsShifts.
-/
import Derived.Test.YthfnkgofkdahfaaDoorV3
import Derived.Deep.RegionHeld3
import Derived.IntWalk
namespace Go.Proofs.YthfnkgofkdahfaaDoor
open Go.RowKit

theorem VAt.other {w w' : World} {B g g1 : Nat} {xs : List ByteArray} (h : VAt w B g xs) (hg : g ≠ g1) (hB : g1 < B) (hb : ∀ b, b < w.heap.size → b ≠ g1 → w'.heap[b]? = w.heap[b]?) : VAt w' B g xs := by
  obtain ⟨m, v, st, h1, h2, h3⟩ := h
  refine ⟨m, v, st, (hb g h1.lt hg).trans h1, ⟨h2.1, ?_⟩, h3⟩
  rcases h2.2 with h4 | ⟨q, cap, cur, hv, hq, hc, r⟩
  · exact .inl h4
  · exact .inr ⟨q, cap, cur, hv, hq, by rw [hb q (Array.getElem?_eq_some_iff.1 hc).1 (by omega)]; exact hc, r⟩

theorem elems_cut {w : World} {B n c m : Nat} {a : Option Addr} {ss : List ByteArray} (h : Elems w B a n (ss.map Value.string)) (hc : n ≤ c) (hc2 : c ≤ maxLen) (hm : m ≤ n) :
    ∃ a' c', (∀ w' : World, (Instr.slice 22 (.slice a n c) (some (.int .i64 (m : Int))) none none).run Tryd.prog w' = .ok (.slice a' (n - m) c') w') ∧ Elems w B a' (n - m) ((ss.drop m).map Value.string) := by
  have hsl : Sl w B 1 (.slice a n c) n (ss.map Value.string) := ⟨by rw [Nat.mul_one]; exact h.1, a, c, rfl, hc, hc2, by
    rcases h.2.2 with h3 | ⟨b, off, ha, hb, hx⟩
    · exact .inl h3
    · exact .inr ⟨b, off, ha, hb, fun j hj => hx j (by omega)⟩⟩
  obtain ⟨v', h1, h2⟩ := hsl.cut (P := Tryd.prog) 22 9 Tryd.underlying22 (by kernel_rfl) hm
  obtain ⟨a', c', rfl, hE⟩ := sl_elems h2
  rw [Nat.mul_one, ← List.map_drop] at hE
  exact ⟨a', c', h1, hE⟩

set_option maxHeartbeats 1000000 in
set_option maxRecDepth 100000 in
theorem shifts_any (a : Option Addr) (n c : Nat) (ss : List ByteArray) (m k : Int) (w : World) (hE : Elems w w.heap.size a n (ss.map .string)) (hc : n ≤ c) (hc2 : c ≤ maxLen) (hm : -9223372036854775808 ≤ m ∧ m ≤ 9223372036854775807) (hk : -9223372036854775808 ≤ k ∧ k ≤ 9223372036854775807) :
    Calls Tryd.prog 3 #[.slice a n c, .int .i64 m, .int .i64 k] w fun e w' => e = .returned (.bool true) ∧ Below w.heap.size w w' := by
  have hl : ss.length = n := by simpa using hE.1
  have hnm : n ≤ 9223372036854775807 := by have := hE.2.1; unfold maxLen at this; omega
  have C0 := Lib.hid (anchor_any w)
  have HL := Lib.hid hl
  have HE := Lib.hid hE
  have HC := Lib.hid (And.intro hc hc2)
  clear hE hl hc hc2
  by_cases h50 : (50 : Int) < (n : Int)
  ·
    go_enter Tryd.func3, Tryd.ntmps3
    go_wp2_with fail
    refine C0.out.mono ?_
    rintro e w1 ⟨rfl, hb1⟩
    have HB1 := Lib.hid hb1
    clear hb1
    go_wp2
    go_ret
    exact ⟨rfl, HB1.out⟩
  by_cases hm0 : m < 0
  ·
    go_enter Tryd.func3, Tryd.ntmps3
    go_wp2_with fail
    refine C0.out.mono ?_
    rintro e w1 ⟨rfl, hb1⟩
    have HB1 := Lib.hid hb1
    clear hb1
    go_wp2
    go_ret
    exact ⟨rfl, HB1.out⟩
  by_cases hk0 : k < 0
  ·
    go_enter Tryd.func3, Tryd.ntmps3
    go_wp2_with fail
    refine C0.out.mono ?_
    rintro e w1 ⟨rfl, hb1⟩
    have HB1 := Lib.hid hb1
    clear hb1
    go_wp2
    go_ret
    exact ⟨rfl, HB1.out⟩
  by_cases hm1 : 100 < m
  ·
    go_enter Tryd.func3, Tryd.ntmps3
    go_wp2_with fail
    refine C0.out.mono ?_
    rintro e w1 ⟨rfl, hb1⟩
    have HB1 := Lib.hid hb1
    clear hb1
    go_wp2
    go_ret
    exact ⟨rfl, HB1.out⟩
  by_cases hk1 : 100 < k
  ·
    go_enter Tryd.func3, Tryd.ntmps3
    go_wp2_with fail
    refine C0.out.mono ?_
    rintro e w1 ⟨rfl, hb1⟩
    have HB1 := Lib.hid hb1
    clear hb1
    go_wp2
    go_ret
    exact ⟨rfl, HB1.out⟩
  obtain ⟨M, rfl⟩ : ∃ M : Nat, m = (M : Int) := ⟨m.toNat, by omega⟩
  obtain ⟨K, rfl⟩ : ∃ K : Nat, k = (K : Int) := ⟨k.toNat, by omega⟩
  have hn50 : n ≤ 50 := by omega
  have HEL : Hid (∀ W, Below w.heap.size w W → Elems W W.heap.size a n (ss.map .string)) := Lib.hid fun W hW => (HE.out.below hW).mono hW.size
  have CN : Hid (∀ W, Below w.heap.size w W → Calls Tryd.prog 6 #[.slice none 0 0, .string ⟨#[115, 104]⟩, .slice a n c] W fun e w' => ∃ g, e = .returned (.pointer (some ⟨g, 0, none⟩)) ∧ VAt w' W.heap.size g ss ∧ W.heap.size ≤ g ∧ Below W.heap.size W w') := Lib.hid fun W hW => new_any a n c ss W _ (HEL.out W hW) (Nat.le_refl _) (by omega)
  have CS : Hid (∀ (W W0 : World) (X : List ByteArray) (a1 a2 : Option Addr) (N c1 c2 : Nat) (Bw : World), Elems W0 W0.heap.size a1 N (X.map .string) → Elems Bw Bw.heap.size a2 N (X.map .string) → Below Bw.heap.size Bw W0 → Below W0.heap.size W0 W → Calls Tryd.prog 8 #[.slice a1 N c1, .slice a2 N c2] W fun e w' => e = .returned (.bool true) ∧ Below W0.heap.size W0 w') := Lib.hid fun W W0 X a1 a2 N c1 c2 Bw h1 h2 h3 h4 =>
    (same_any a1 a2 N c1 c2 X W W.heap.size ((h1.below h4).mono h4.size) ((((h2.below h3).mono h3.size).below h4).mono h4.size)).mono fun e w' h => ⟨h.1, h4.trans (h.2.mono h4.size)⟩
  clear hm hk
  by_cases hMn : n < M
  · -- the first shift is refused
    have hMn' : (n : Int) < (M : Int) := by omega
    go_enter Tryd.func3, Tryd.ntmps3
    go_wp2_with fail
    refine C0.out.mono ?_
    rintro e w1 ⟨rfl, hb1⟩
    have HB1 := Lib.hid hb1
    clear hb1
    go_wp2_with fail
    refine (CN.out _ HB1.out).mono ?_
    rintro e w2 ⟨g1, rfl, hv1, hg1, hb2⟩
    have HB2 : Hid (Below w.heap.size w w2) := Lib.hid (HB1.out.trans (hb2.mono HB1.out.size))
    have HV1 := Lib.hid hv1
    have hw1 : w1.heap.size ≤ w2.heap.size := hb2.size
    have hw0 : w.heap.size ≤ w1.heap.size := HB1.out.size
    have hg1' := hv1.lt
    clear hb2 hv1
    go_wp2_with fail
    refine (CN.out _ HB2.out).mono ?_
    rintro e w3 ⟨g2, rfl, hv2, hg2, hb3⟩
    have HB3 : Hid (Below w.heap.size w w3) := Lib.hid (HB2.out.trans (hb3.mono HB2.out.size))
    have HV1' := Lib.hid (HV1.out.below hb3)
    have HV2 := Lib.hid hv2
    have hg2' := hv2.lt
    have hw2 : w2.heap.size ≤ w3.heap.size := hb3.size
    clear hb3 hv2 HV1
    go_wp2_with fail
    have S1 := Lib.hid (shift_bad g1 ss (M : Int) w3 _ HV1'.out (by rw [HL.out]; omega) (by rw [HL.out]; exact hMn'))
    refine S1.out.mono ?_
    rintro e w4 ⟨rfl, rfl⟩
    have CA := Lib.hid (args_any g1 ss w3 _ HV1'.out (by rw [HL.out]; omega))
    rw [HL.out] at CA
    go_wp2_with fail
    refine CA.out.mono ?_
    rintro e w5 ⟨a1, c1, rfl, hE1, hb5⟩
    have C2 := Lib.hid (CS.out w5 w5 ss a1 a n c1 c w hE1 HE.out (HB3.out.trans (hb5.mono HB3.out.size)) (Below.refl _ _))
    have HB5 : Hid (Below w.heap.size w w5) := Lib.hid (HB3.out.trans (hb5.mono HB3.out.size))
    clear hb5 hE1
    go_wp2_with fail
    refine C2.out.mono ?_
    rintro e w6 ⟨rfl, hb6⟩
    have HB6 : Hid (Below w.heap.size w w6) := Lib.hid (HB5.out.trans (hb6.mono HB5.out.size))
    clear hb6
    go_wp2
    go_ret
    exact ⟨rfl, HB6.out⟩
  · have hMn' : ¬ (n : Int) < (M : Int) := by omega
    have hMl : M ≤ ss.length := by rw [HL.out]; omega
    have hdl : (ss.drop M).length = n - M := by rw [List.length_drop, HL.out]
    obtain ⟨aM, cM, iM, hEM⟩ := elems_cut HE.out HC.out.1 HC.out.2 (m := M) (by omega)
    have HEM := Lib.hid hEM
    have HDL := Lib.hid hdl
    clear hEM hdl
    by_cases hMK : n < M + K
    · -- the second one is refused
      have hMK' : (n : Int) < (M : Int) + (K : Int) := by omega
      go_enter Tryd.func3, Tryd.ntmps3
      go_wp2_with fail
      refine C0.out.mono ?_
      rintro e w1 ⟨rfl, hb1⟩
      have HB1 := Lib.hid hb1
      clear hb1
      go_wp2_with fail
      refine (CN.out _ HB1.out).mono ?_
      rintro e w2 ⟨g1, rfl, hv1, hg1, hb2⟩
      have HB2 : Hid (Below w.heap.size w w2) := Lib.hid (HB1.out.trans (hb2.mono HB1.out.size))
      have HV1 := Lib.hid hv1
      have hw1 : w1.heap.size ≤ w2.heap.size := hb2.size
      have hw0 : w.heap.size ≤ w1.heap.size := HB1.out.size
      have hg1' := hv1.lt
      clear hb2 hv1
      go_wp2_with fail
      refine (CN.out _ HB2.out).mono ?_
      rintro e w3 ⟨g2, rfl, hv2, hg2, hb3⟩
      have HB3 : Hid (Below w.heap.size w w3) := Lib.hid (HB2.out.trans (hb3.mono HB2.out.size))
      have HV1' := Lib.hid (HV1.out.below hb3)
      have HV2 := Lib.hid hv2
      have hg2' := hv2.lt
      have hw2 : w2.heap.size ≤ w3.heap.size := hb3.size
      clear hb3 hv2 HV1
      go_wp2_with fail
      have S1 := Lib.hid (shift_any g1 ss M w3 _ w1.heap.size HV1'.out hg1 (by rw [HL.out]; omega) hMl)
      refine S1.out.mono ?_
      rintro e w4 ⟨rfl, hv4, hb4, hbl4⟩
      have HV4 := Lib.hid hv4
      have HV24 := Lib.hid (HV2.out.other (show g2 ≠ g1 by omega) (by omega) hbl4)
      have hw3 : w3.heap.size ≤ w4.heap.size := hb4.size
      have HB4 : Hid (Below w.heap.size w w4) := Lib.hid (HB3.out.trans (hb4.mono hw0))
      clear hv4 hb4 hbl4 S1
      go_wp2_with fail
      have S2 := Lib.hid (shift_bad g1 (ss.drop M) (K : Int) w4 _ HV4.out (by rw [HDL.out]; omega) (by rw [HDL.out]; omega))
      refine S2.out.mono ?_
      rintro e w5 ⟨rfl, rfl⟩
      go_wp2_with fail
      have S3 := Lib.hid (shift_bad g2 ss ((M : Int) + (K : Int)) w4 _ HV24.out (by rw [HL.out]; omega) (by rw [HL.out]; exact hMK'))
      refine S3.out.mono ?_
      rintro e w5 ⟨rfl, rfl⟩
      have CA1 : Hid (∀ V, Below w4.heap.size w4 V → Calls Tryd.prog 9 #[.pointer (some ⟨g1, 0, none⟩)] V fun e w' => ∃ a c, e = .returned (.slice a (n - M) c) ∧ Elems w' w'.heap.size a (n - M) ((ss.drop M).map .string) ∧ Below w4.heap.size w4 w') := Lib.hid fun V hV => by
        have := args_any g1 (ss.drop M) V _ (HV4.out.below hV) (by rw [HDL.out]; omega)
        rw [HDL.out] at this
        exact this.mono fun e w' ⟨a, c, h1, h2, h3⟩ => ⟨a, c, h1, h2, hV.trans (h3.mono hV.size)⟩
      have CA2 : Hid (∀ V, Below w4.heap.size w4 V → Calls Tryd.prog 9 #[.pointer (some ⟨g2, 0, none⟩)] V fun e w' => ∃ a c, e = .returned (.slice a n c) ∧ Elems w' w'.heap.size a n (ss.map .string) ∧ Below w4.heap.size w4 w') := Lib.hid fun V hV => by
        have := args_any g2 ss V _ (HV24.out.below hV) (by rw [HL.out]; omega)
        rw [HL.out] at this
        exact this.mono fun e w' ⟨a, c, h1, h2, h3⟩ => ⟨a, c, h1, h2, hV.trans (h3.mono hV.size)⟩
      have CS1 : Hid (∀ (V W0 : World) (a1 : Option Addr) (c1 : Nat), Elems W0 W0.heap.size a1 (n - M) ((ss.drop M).map .string) → Below (w4).heap.size w4 W0 → Below W0.heap.size W0 V → Calls Tryd.prog 8 #[.slice a1 (n - M) c1, .slice aM (n - M) cM] V fun e w' => e = .returned (.bool true) ∧ Below (w4).heap.size w4 w') := Lib.hid fun V W0 a1 c1 h1 h2 h3 =>
        (CS.out V W0 _ a1 _ _ c1 _ w h1 HEM.out (HB4.out.trans (h2.mono HB4.out.size)) h3).mono fun e w' h => ⟨h.1, h2.trans (h.2.mono h2.size)⟩
      have CS2 : Hid (∀ (V W0 : World) (a1 : Option Addr) (c1 : Nat), Elems W0 W0.heap.size a1 (n) ((ss).map .string) → Below (w4).heap.size w4 W0 → Below W0.heap.size W0 V → Calls Tryd.prog 8 #[.slice a1 (n) c1, .slice a (n) c] V fun e w' => e = .returned (.bool true) ∧ Below (w4).heap.size w4 w') := Lib.hid fun V W0 a1 c1 h1 h2 h3 =>
        (CS.out V W0 _ a1 _ _ c1 _ w h1 HE.out (HB4.out.trans (h2.mono HB4.out.size)) h3).mono fun e w' h => ⟨h.1, h2.trans (h.2.mono h2.size)⟩
      go_wp2_with fail
      go_region_held3 (fun _ => True) (trivial) (first
        | (go_at_call 9; with_reducible refine (CA1.out _ ?_).mono ?_; (first | exact Below.refl _ _ | exact Below.drew (Below.refl _ _)); rintro e x6 ⟨a1, c1, rfl, hE1, hb6⟩)
        | (go_at_call 8; with_reducible refine (CS1.out _ x6 a1 c1 hE1 hb6 ?_).mono ?_; (first | exact Below.refl _ _ | exact Below.drew (Below.refl _ _)); rintro e x7 ⟨rfl, hb7⟩)
        | (go_at_call 9; with_reducible refine (CA2.out _ ?_).mono ?_; (first | exact hb7 | exact Below.drew hb7); rintro e x8 ⟨a2, c2, rfl, hE2, hb8⟩)
        | (go_at_call 8; with_reducible refine (CS2.out _ x8 a2 c2 hE2 hb8 ?_).mono ?_; (first | exact Below.refl _ _ | exact Below.drew (Below.refl _ _)); rintro e x9 ⟨rfl, hb9⟩))
      all_goals
        go_wp2
        go_ret
        exact ⟨rfl, HB4.out.trans ((by first | exact hb9 | exact Below.drew hb9 : Below (w4).heap.size w4 _).mono HB4.out.size)⟩
    · have hMK' : ¬ (n : Int) < (M : Int) + (K : Int) := by omega
      have hKl : K ≤ (ss.drop M).length := by rw [HDL.out]; omega
      have hd2 : ((ss.drop M).drop K) = ss.drop (M + K) := by rw [List.drop_drop]
      have hdl2 : (ss.drop (M + K)).length = n - (M + K) := by rw [List.length_drop, HL.out]
      obtain ⟨aQ, cQ, iQ, hEQ⟩ := elems_cut HE.out HC.out.1 HC.out.2 (m := M + K) (by omega)
      have iQ' : ∀ w' : World, (Instr.slice 22 (.slice a n c) (some (.int .i64 ((M : Int) + (K : Int)))) none none).run Tryd.prog w' = .ok (.slice aQ (n - (M + K)) cQ) w' := fun w' => by have := iQ w'; rwa [show ((M + K : Nat) : Int) = (M : Int) + (K : Int) by omega] at this
      have hsum : IntKind.i64.wrap ((M : Int) + (K : Int)) = (M : Int) + (K : Int) := IntWalk.i64_in _ ⟨by omega, by omega⟩
      have HEQ := Lib.hid hEQ
      have HDL2 := Lib.hid hdl2
      have HD2 := Lib.hid hd2
      clear hEQ hdl2 hd2 iQ
      go_enter Tryd.func3, Tryd.ntmps3
      go_wp2_with fail
      refine C0.out.mono ?_
      rintro e w1 ⟨rfl, hb1⟩
      have HB1 := Lib.hid hb1
      clear hb1
      go_wp2_with fail
      refine (CN.out _ HB1.out).mono ?_
      rintro e w2 ⟨g1, rfl, hv1, hg1, hb2⟩
      have HB2 : Hid (Below w.heap.size w w2) := Lib.hid (HB1.out.trans (hb2.mono HB1.out.size))
      have HV1 := Lib.hid hv1
      have hw1 : w1.heap.size ≤ w2.heap.size := hb2.size
      have hw0 : w.heap.size ≤ w1.heap.size := HB1.out.size
      have hg1' := hv1.lt
      clear hb2 hv1
      go_wp2_with fail
      refine (CN.out _ HB2.out).mono ?_
      rintro e w3 ⟨g2, rfl, hv2, hg2, hb3⟩
      have HB3 : Hid (Below w.heap.size w w3) := Lib.hid (HB2.out.trans (hb3.mono HB2.out.size))
      have HV1' := Lib.hid (HV1.out.below hb3)
      have HV2 := Lib.hid hv2
      have hg2' := hv2.lt
      have hw2 : w2.heap.size ≤ w3.heap.size := hb3.size
      clear hb3 hv2 HV1
      go_wp2_with fail
      have S1 := Lib.hid (shift_any g1 ss M w3 _ w1.heap.size HV1'.out hg1 (by rw [HL.out]; omega) hMl)
      refine S1.out.mono ?_
      rintro e w4 ⟨rfl, hv4, hb4, hbl4⟩
      have HV4 := Lib.hid hv4
      have HV24 := Lib.hid (HV2.out.other (show g2 ≠ g1 by omega) (by omega) hbl4)
      have hw3 : w3.heap.size ≤ w4.heap.size := hb4.size
      have HB4 : Hid (Below w.heap.size w w4) := Lib.hid (HB3.out.trans (hb4.mono hw0))
      clear hv4 hb4 hbl4 S1
      go_wp2_with fail
      have S2 := Lib.hid (shift_any g1 (ss.drop M) K w4 _ w1.heap.size HV4.out hg1 (by rw [HDL.out]; omega) hKl)
      refine S2.out.mono ?_
      rintro e w5 ⟨rfl, hv5, hb5, hbl5⟩
      rw [HD2.out] at hv5
      have HV5 := Lib.hid hv5
      have hw4 : w4.heap.size ≤ w5.heap.size := hb5.size
      have HV25 := Lib.hid (HV24.out.other (show g2 ≠ g1 by omega) (by omega) hbl5)
      have HB5 : Hid (Below w.heap.size w w5) := Lib.hid (HB4.out.trans (hb5.mono hw0))
      clear hv5 hb5 hbl5 S2
      go_wp2_with fail
      have S3 := shift_any g2 ss (M + K) w5 _ w2.heap.size HV25.out hg2 (by rw [HL.out]; omega) (by rw [HL.out]; omega)
      rw [show ((M + K : Nat) : Int) = (M : Int) + (K : Int) by omega] at S3
      refine S3.mono ?_
      clear S3
      rintro e w6 ⟨rfl, hv6, hb6, hbl6⟩
      have HV26 := Lib.hid hv6
      have HV6 := Lib.hid (HV5.out.other (show g1 ≠ g2 by omega) (by omega) hbl6)
      have HB6 : Hid (Below w.heap.size w w6) := Lib.hid (HB5.out.trans (hb6.mono (by omega)))
      clear hv6 hb6 hbl6
      have CA1 : Hid (∀ V, Below w6.heap.size w6 V → Calls Tryd.prog 9 #[.pointer (some ⟨g1, 0, none⟩)] V fun e w' => ∃ a c, e = .returned (.slice a (n - (M + K)) c) ∧ Elems w' w'.heap.size a (n - (M + K)) ((ss.drop (M + K)).map .string) ∧ Below w6.heap.size w6 w') := Lib.hid fun V hV => by
        have := args_any g1 (ss.drop (M + K)) V _ (HV6.out.below hV) (by rw [HDL2.out]; omega)
        rw [HDL2.out] at this
        exact this.mono fun e w' ⟨a, c, h1, h2, h3⟩ => ⟨a, c, h1, h2, hV.trans (h3.mono hV.size)⟩
      have CA2 : Hid (∀ V, Below w6.heap.size w6 V → Calls Tryd.prog 9 #[.pointer (some ⟨g2, 0, none⟩)] V fun e w' => ∃ a c, e = .returned (.slice a (n - (M + K)) c) ∧ Elems w' w'.heap.size a (n - (M + K)) ((ss.drop (M + K)).map .string) ∧ Below w6.heap.size w6 w') := Lib.hid fun V hV => by
        have := args_any g2 (ss.drop (M + K)) V _ (HV26.out.below hV) (by rw [HDL2.out]; omega)
        rw [HDL2.out] at this
        exact this.mono fun e w' ⟨a, c, h1, h2, h3⟩ => ⟨a, c, h1, h2, hV.trans (h3.mono hV.size)⟩
      have CS1 : Hid (∀ (V W0 : World) (a1 : Option Addr) (c1 : Nat), Elems W0 W0.heap.size a1 (n - (M + K)) ((ss.drop (M + K)).map .string) → Below (w6).heap.size w6 W0 → Below W0.heap.size W0 V → Calls Tryd.prog 8 #[.slice a1 (n - (M + K)) c1, .slice aQ (n - (M + K)) cQ] V fun e w' => e = .returned (.bool true) ∧ Below (w6).heap.size w6 w') := Lib.hid fun V W0 a1 c1 h1 h2 h3 =>
        (CS.out V W0 _ a1 _ _ c1 _ w h1 HEQ.out (HB6.out.trans (h2.mono HB6.out.size)) h3).mono fun e w' h => ⟨h.1, h2.trans (h.2.mono h2.size)⟩
      have CS2 : Hid (∀ (V W0 : World) (a1 : Option Addr) (c1 : Nat), Elems W0 W0.heap.size a1 (n - (M + K)) ((ss.drop (M + K)).map .string) → Below (w6).heap.size w6 W0 → Below W0.heap.size W0 V → Calls Tryd.prog 8 #[.slice a1 (n - (M + K)) c1, .slice aQ (n - (M + K)) cQ] V fun e w' => e = .returned (.bool true) ∧ Below (w6).heap.size w6 w') := Lib.hid fun V W0 a1 c1 h1 h2 h3 =>
        (CS.out V W0 _ a1 _ _ c1 _ w h1 HEQ.out (HB6.out.trans (h2.mono HB6.out.size)) h3).mono fun e w' h => ⟨h.1, h2.trans (h.2.mono h2.size)⟩
      go_wp2_with fail
      go_region_held3 (fun _ => True) (trivial) (first
        | (go_at_call 9; with_reducible refine (CA1.out _ ?_).mono ?_; (first | exact Below.refl _ _ | exact Below.drew (Below.refl _ _)); rintro e x6 ⟨a1, c1, rfl, hE1, hb6⟩)
        | (go_at_call 8; with_reducible refine (CS1.out _ x6 a1 c1 hE1 hb6 ?_).mono ?_; (first | exact Below.refl _ _ | exact Below.drew (Below.refl _ _)); rintro e x7 ⟨rfl, hb7⟩)
        | (go_at_call 9; with_reducible refine (CA2.out _ ?_).mono ?_; (first | exact hb7 | exact Below.drew hb7); rintro e x8 ⟨a2, c2, rfl, hE2, hb8⟩)
        | (go_at_call 8; with_reducible refine (CS2.out _ x8 a2 c2 hE2 hb8 ?_).mono ?_; (first | exact Below.refl _ _ | exact Below.drew (Below.refl _ _)); rintro e x9 ⟨rfl, hb9⟩))
      all_goals
        go_wp2
        go_ret
        exact ⟨rfl, HB6.out.trans ((by first | exact hb9 | exact Below.drew hb9 : Below (w6).heap.size w6 _).mono HB6.out.size)⟩
end Go.Proofs.YthfnkgofkdahfaaDoor
