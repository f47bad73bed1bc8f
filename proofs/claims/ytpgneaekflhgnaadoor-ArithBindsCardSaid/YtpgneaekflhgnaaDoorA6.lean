/-
  The walk of arith.Read.
-/
import Derived.Test.YtpgneaekflhgnaaDoorA5
namespace Go.Proofs.YtpgneaekflhgnaaDoor
open Go.RowKit

theorem digV_not {c : UInt8} (h : letB c = false) : digV c = 99 := by
  simp only [letB, Bool.or_eq_false_iff, Bool.and_eq_false_iff, decide_eq_false_iff_not] at h
  rw [digV, if_neg (by omega), if_neg (by omega), if_neg (by omega)]
theorem readB_off {b : Nat} (hb : b ≤ 99) {l : List UInt8} {k : Nat} (hk : k < l.length) (h : letB (l.getD k 0) = false) : readB b l = none := by
  refine readB_not (c := l.getD k 0) ?_ (by rw [digV_not h]; exact hb)
  simp [List.getD, List.getElem?_eq_getElem hk]
/-- The number, as Read gives it: 0, if none. -/
def readV (o : Option Nat) : Value := .tuple #[.int .i64 ((o.getD 0 : Nat) : Int), .bool o.isSome]
set_option maxHeartbeats 2000000 in
set_option maxRecDepth 100000 in
theorem read_any (s : ByteArray) (w : World) (hs : s.size ≤ 1000) (herr : readL (L s) = none → ErrV w) :
    Calls Tryd.prog 11 #[.string s] w fun e w' => e = .returned (readV (readL (L s))) ∧ Below w.heap.size w w' := by
  have CL : Hid (∀ (c : UInt8) W, Calls Tryd.prog 26 #[.int .u8 (c.toNat : Int)] W fun e w' => e = .returned (.bool (letB c)) ∧ W = w') := Lib.hid aletter_any
  -- $1$: the text that is left; $2$: the base
  by_cases h2 : 2 < s.size
  · obtain ⟨c, d, x, r, hl⟩ : ∃ c d x r, L s = c :: d :: x :: r := by
      have hz := L_size s
      rcases h : L s with _ | ⟨c, _ | ⟨d, _ | ⟨x, r⟩⟩⟩
      · rw [h] at hz; simp at hz; omega
      · rw [h] at hz; simp at hz; omega
      · rw [h] at hz; simp at hz; omega
      · exact ⟨c, d, x, r, rfl⟩
    have he : L (s.extract 0 2) = [c, d] := by rw [L_extract, hl]; rfl
    have he1 : L (s.extract 1 s.size) = d :: x :: r := by
      rw [L_extract, List.take_of_length_le (by simp [L_size]), hl]; rfl
    have he2 : L (s.extract 2 s.size) = x :: r := by
      rw [L_extract, List.take_of_length_le (by simp [L_size]), hl]; rfl
    have ix := fun W => run_idx (P := Tryd.prog) Tryd.underlying9 s (k := .i64) 0 0 rfl (by omega) W
    have h0 : (L s).getD 0 0 = c := by rw [hl]; rfl
    rw [h0] at ix
    have t1 : ((s.extract 0 2).toList == [48, 120]) = (c == 48 && d == 120) := by rw [toList_L, he]; simp
    have t2 : ((s.extract 0 2).toList == [48, 88]) = (c == 48 && d == 88) := by rw [toList_L, he]; simp
    have hz1 : (s.extract 1 s.size).size ≤ 1000 := by have := extract_len s 1 s.size; omega
    have hz2 : (s.extract 2 s.size).size ≤ 1000 := by have := extract_len s 2 s.size; omega
    by_cases hc : c = 48
    · subst hc
      have i48 : ((((48 : UInt8).toNat : Nat) : Int) == 48) = true := by decide
      by_cases hx : d = 120
      · subst hx
        have heq : readL (L s) = readB 16 (L (s.extract 2 s.size)) := by rw [hl, he2]; simp [readL]
        have htz := hz2
        simp only [beq_self_eq_true, Bool.and_self] at t1
        clear t2 ix he1 he2 he hl hz1 h0
        have HEQ : Hid (readL (L s) = readB 16 (L (s.extract 2 s.size))) := Lib.hid heq
        have HERR : Hid (readB 16 (L (s.extract 2 s.size)) = none → ErrV w) := Lib.hid fun h => herr (heq.trans h)
        have HT : Hid ((s.extract 2 s.size).size ≤ 1000) := Lib.hid htz
        have HSZ : Hid ((s.extract 2 s.size).size = (s.size - 2)) := Lib.hid (by first | rfl | (rw [← L_size, L_extract, List.length_take, List.length_drop, L_size]; omega))
        clear heq herr htz
        have HM := Lib.hid (BytesAt.made w 5 (s.extract 2 s.size))
        have HB := Lib.hid (below_bytesWorld w 5 (s.extract 2 s.size))
        obtain ⟨wb, hwb⟩ : ∃ wb, wb = Lib.bytesWorld w 5 (s.extract 2 s.size) := ⟨_, rfl⟩
        rw [← hwb] at HM HB
        have HWB := Lib.hid hwb
        clear hwb
        go_enter Tryd.func11, Tryd.ntmps11
        go_wp2_with fail
        rw [← HWB.out]
        go_loopw [39] (fun i wr => ∃ k : Nat, k ≤ (s.size - 2) ∧ i = .int .i64 k ∧ wr = wb ∧ Hid (∀ j, j < k → letB ((L (s.extract 2 s.size)).getD j 0) = true)) (fun i _ => (s.size - 2) - (intOf i).toNat)
        case atStart => exact ⟨0, Nat.zero_le _, rfl, rfl, Lib.hid fun j hj => absurd hj (by omega)⟩
        case round =>
          obtain ⟨k, hk, rfl, rfl, hall⟩ := hrel
          have hk1000 : k ≤ 1000 := Nat.le_trans hk (by have h1 := HT.out; have h2 := HSZ.out; omega)
          have hz1000 : (s.size - 2) ≤ 1000 := by have h1 := HT.out; have h2 := HSZ.out; omega
          by_cases hlt : k < (s.size - 2)
          · have hcell := (HM.out k (by first | (rw [L_size, HSZ.out]; exact hlt) | (rw [L_size]; exact hlt))).1
            have HRN : Hid (letB ((L (s.extract 2 s.size)).getD k 0) = false → readB 16 (L (s.extract 2 s.size)) = none) := Lib.hid fun h => readB_off (by decide) (by first | (rw [L_size, HSZ.out]; exact hlt) | (rw [L_size]; exact hlt)) h
            have HNX : Hid (letB ((L (s.extract 2 s.size)).getD k 0) = true → ∀ j, j < k + 1 → letB ((L (s.extract 2 s.size)).getD j 0) = true) := Lib.hid fun h j hj => by
              by_cases hjk : j < k
              · exact hall.out j hjk
              · obtain rfl : j = k := by omega
                exact h
            generalize (L (s.extract 2 s.size)).getD k 0 = c at hcell HRN HNX
            cases hc : letB c with
            | true =>
              have HN2 := Lib.hid (HNX.out hc)
              have C1 : Hid (∀ W, Calls Tryd.prog 26 #[.int .u8 (c.toNat : Int)] W fun e w' => e = .returned (.bool true) ∧ W = w') := Lib.hid fun W => by rw [← hc]; exact CL.out c W
              clear hc HNX HRN
              go_wp2_with fail
              refine (C1.out _).mono ?_
              rintro e w' ⟨rfl, rfl⟩
              go_wp2_with fail
              go_roundw
              case rel => exact ⟨k + 1, by omega, by go_num, by first | trivial | rfl, HN2⟩
              case measure => simp [intOf]; omega
            | false =>
              have HF : Hid (readL (L s) = none) := Lib.hid (HEQ.out.trans (HRN.out hc))
              have C1 : Hid (∀ W, Calls Tryd.prog 26 #[.int .u8 (c.toNat : Int)] W fun e w' => e = .returned (.bool false) ∧ W = w') := Lib.hid fun W => by rw [← hc]; exact CL.out c W
              clear hc HNX HRN
              go_wp2_with fail
              refine (C1.out _).mono ?_
              rintro e w' ⟨rfl, rfl⟩
              go_wp2_with fail
              go_ret2
              exact ⟨by rw [HF.out]; rfl, HB.out⟩
          · have hkz : k = (s.extract 2 s.size).size := by have h2 := HSZ.out; omega
            have hkz2 : k = (s.size - 2) := by omega
            have C1 := Lib.hid (spi_all (b := 16) (by decide) (s.extract 2 s.size) wr HT.out (fun c hc => by
              obtain ⟨i, hi, e⟩ := List.getElem_of_mem hc
              have := hall.out i (by rw [hkz]; exact hi)
              rwa [List.getD_eq_getElem?_getD, List.getElem?_eq_getElem hi, Option.getD_some, e] at this) (fun h => (HERR.out h).below HB.out))
            clear hall hkz
            go_wp2_with fail
            refine C1.out.mono ?_
            rintro e w2 ⟨⟨n, hn, rfl⟩ | ⟨hn, v, ty, x, rfl⟩, hb2⟩
            · have HF : Hid (readL (L s) = some n ∧ Below w.heap.size w w2) := Lib.hid ⟨HEQ.out.trans hn, HB.out.trans (hb2.mono HB.out.size)⟩
              clear hn hb2
              go_wp2_with fail
              go_ret2
              exact ⟨by rw [HF.out.1]; rfl, HF.out.2⟩
            · have HF : Hid (readL (L s) = none ∧ Below w.heap.size w w2) := Lib.hid ⟨HEQ.out.trans hn, HB.out.trans (hb2.mono HB.out.size)⟩
              clear hn hb2
              go_wp2_with fail
              go_ret2
              exact ⟨by rw [HF.out.1]; rfl, HF.out.2⟩
      · by_cases hX : d = 88
        · subst hX
          have heq : readL (L s) = readB 16 (L (s.extract 2 s.size)) := by rw [hl, he2]; simp [readL]
          have htz := hz2
          have t1' : ((s.extract 0 2).toList == [48, 120]) = false := by rw [t1]; decide
          simp only [beq_self_eq_true, Bool.and_self] at t2
          clear t1 ix he1 he2 he hl hz1 h0
          have HEQ : Hid (readL (L s) = readB 16 (L (s.extract 2 s.size))) := Lib.hid heq
          have HERR : Hid (readB 16 (L (s.extract 2 s.size)) = none → ErrV w) := Lib.hid fun h => herr (heq.trans h)
          have HT : Hid ((s.extract 2 s.size).size ≤ 1000) := Lib.hid htz
          have HSZ : Hid ((s.extract 2 s.size).size = (s.size - 2)) := Lib.hid (by first | rfl | (rw [← L_size, L_extract, List.length_take, List.length_drop, L_size]; omega))
          clear heq herr htz
          have HM := Lib.hid (BytesAt.made w 5 (s.extract 2 s.size))
          have HB := Lib.hid (below_bytesWorld w 5 (s.extract 2 s.size))
          obtain ⟨wb, hwb⟩ : ∃ wb, wb = Lib.bytesWorld w 5 (s.extract 2 s.size) := ⟨_, rfl⟩
          rw [← hwb] at HM HB
          have HWB := Lib.hid hwb
          clear hwb
          go_enter Tryd.func11, Tryd.ntmps11
          go_wp2_with fail
          rw [← HWB.out]
          go_loopw [39] (fun i wr => ∃ k : Nat, k ≤ (s.size - 2) ∧ i = .int .i64 k ∧ wr = wb ∧ Hid (∀ j, j < k → letB ((L (s.extract 2 s.size)).getD j 0) = true)) (fun i _ => (s.size - 2) - (intOf i).toNat)
          case atStart => exact ⟨0, Nat.zero_le _, rfl, rfl, Lib.hid fun j hj => absurd hj (by omega)⟩
          case round =>
            obtain ⟨k, hk, rfl, rfl, hall⟩ := hrel
            have hk1000 : k ≤ 1000 := Nat.le_trans hk (by have h1 := HT.out; have h2 := HSZ.out; omega)
            have hz1000 : (s.size - 2) ≤ 1000 := by have h1 := HT.out; have h2 := HSZ.out; omega
            by_cases hlt : k < (s.size - 2)
            · have hcell := (HM.out k (by first | (rw [L_size, HSZ.out]; exact hlt) | (rw [L_size]; exact hlt))).1
              have HRN : Hid (letB ((L (s.extract 2 s.size)).getD k 0) = false → readB 16 (L (s.extract 2 s.size)) = none) := Lib.hid fun h => readB_off (by decide) (by first | (rw [L_size, HSZ.out]; exact hlt) | (rw [L_size]; exact hlt)) h
              have HNX : Hid (letB ((L (s.extract 2 s.size)).getD k 0) = true → ∀ j, j < k + 1 → letB ((L (s.extract 2 s.size)).getD j 0) = true) := Lib.hid fun h j hj => by
                by_cases hjk : j < k
                · exact hall.out j hjk
                · obtain rfl : j = k := by omega
                  exact h
              generalize (L (s.extract 2 s.size)).getD k 0 = c at hcell HRN HNX
              cases hc : letB c with
              | true =>
                have HN2 := Lib.hid (HNX.out hc)
                have C1 : Hid (∀ W, Calls Tryd.prog 26 #[.int .u8 (c.toNat : Int)] W fun e w' => e = .returned (.bool true) ∧ W = w') := Lib.hid fun W => by rw [← hc]; exact CL.out c W
                clear hc HNX HRN
                go_wp2_with fail
                refine (C1.out _).mono ?_
                rintro e w' ⟨rfl, rfl⟩
                go_wp2_with fail
                go_roundw
                case rel => exact ⟨k + 1, by omega, by go_num, by first | trivial | rfl, HN2⟩
                case measure => simp [intOf]; omega
              | false =>
                have HF : Hid (readL (L s) = none) := Lib.hid (HEQ.out.trans (HRN.out hc))
                have C1 : Hid (∀ W, Calls Tryd.prog 26 #[.int .u8 (c.toNat : Int)] W fun e w' => e = .returned (.bool false) ∧ W = w') := Lib.hid fun W => by rw [← hc]; exact CL.out c W
                clear hc HNX HRN
                go_wp2_with fail
                refine (C1.out _).mono ?_
                rintro e w' ⟨rfl, rfl⟩
                go_wp2_with fail
                go_ret2
                exact ⟨by rw [HF.out]; rfl, HB.out⟩
            · have hkz : k = (s.extract 2 s.size).size := by have h2 := HSZ.out; omega
              have hkz2 : k = (s.size - 2) := by omega
              have C1 := Lib.hid (spi_all (b := 16) (by decide) (s.extract 2 s.size) wr HT.out (fun c hc => by
                obtain ⟨i, hi, e⟩ := List.getElem_of_mem hc
                have := hall.out i (by rw [hkz]; exact hi)
                rwa [List.getD_eq_getElem?_getD, List.getElem?_eq_getElem hi, Option.getD_some, e] at this) (fun h => (HERR.out h).below HB.out))
              clear hall hkz
              go_wp2_with fail
              refine C1.out.mono ?_
              rintro e w2 ⟨⟨n, hn, rfl⟩ | ⟨hn, v, ty, x, rfl⟩, hb2⟩
              · have HF : Hid (readL (L s) = some n ∧ Below w.heap.size w w2) := Lib.hid ⟨HEQ.out.trans hn, HB.out.trans (hb2.mono HB.out.size)⟩
                clear hn hb2
                go_wp2_with fail
                go_ret2
                exact ⟨by rw [HF.out.1]; rfl, HF.out.2⟩
              · have HF : Hid (readL (L s) = none ∧ Below w.heap.size w w2) := Lib.hid ⟨HEQ.out.trans hn, HB.out.trans (hb2.mono HB.out.size)⟩
                clear hn hb2
                go_wp2_with fail
                go_ret2
                exact ⟨by rw [HF.out.1]; rfl, HF.out.2⟩
        · have heq : readL (L s) = readB 8 (L (s.extract 1 s.size)) := by rw [hl, he1]; simp [readL, hx, hX]
          have htz := hz1
          have t1' : ((s.extract 0 2).toList == [48, 120]) = false := by rw [t1]; simp [hx]
          have t2' : ((s.extract 0 2).toList == [48, 88]) = false := by rw [t2]; simp [hX]
          clear t1 t2 he1 he2 he hl hz2 h0 hx hX
          have HEQ : Hid (readL (L s) = readB 8 (L (s.extract 1 s.size))) := Lib.hid heq
          have HERR : Hid (readB 8 (L (s.extract 1 s.size)) = none → ErrV w) := Lib.hid fun h => herr (heq.trans h)
          have HT : Hid ((s.extract 1 s.size).size ≤ 1000) := Lib.hid htz
          have HSZ : Hid ((s.extract 1 s.size).size = (s.size - 1)) := Lib.hid (by first | rfl | (rw [← L_size, L_extract, List.length_take, List.length_drop, L_size]; omega))
          clear heq herr htz
          have HM := Lib.hid (BytesAt.made w 5 (s.extract 1 s.size))
          have HB := Lib.hid (below_bytesWorld w 5 (s.extract 1 s.size))
          obtain ⟨wb, hwb⟩ : ∃ wb, wb = Lib.bytesWorld w 5 (s.extract 1 s.size) := ⟨_, rfl⟩
          rw [← hwb] at HM HB
          have HWB := Lib.hid hwb
          clear hwb
          go_enter Tryd.func11, Tryd.ntmps11
          go_wp2_with fail
          rw [← HWB.out]
          go_loopw [39] (fun i wr => ∃ k : Nat, k ≤ (s.size - 1) ∧ i = .int .i64 k ∧ wr = wb ∧ Hid (∀ j, j < k → letB ((L (s.extract 1 s.size)).getD j 0) = true)) (fun i _ => (s.size - 1) - (intOf i).toNat)
          case atStart => exact ⟨0, Nat.zero_le _, rfl, rfl, Lib.hid fun j hj => absurd hj (by omega)⟩
          case round =>
            obtain ⟨k, hk, rfl, rfl, hall⟩ := hrel
            have hk1000 : k ≤ 1000 := Nat.le_trans hk (by have h1 := HT.out; have h2 := HSZ.out; omega)
            have hz1000 : (s.size - 1) ≤ 1000 := by have h1 := HT.out; have h2 := HSZ.out; omega
            by_cases hlt : k < (s.size - 1)
            · have hcell := (HM.out k (by first | (rw [L_size, HSZ.out]; exact hlt) | (rw [L_size]; exact hlt))).1
              have HRN : Hid (letB ((L (s.extract 1 s.size)).getD k 0) = false → readB 8 (L (s.extract 1 s.size)) = none) := Lib.hid fun h => readB_off (by decide) (by first | (rw [L_size, HSZ.out]; exact hlt) | (rw [L_size]; exact hlt)) h
              have HNX : Hid (letB ((L (s.extract 1 s.size)).getD k 0) = true → ∀ j, j < k + 1 → letB ((L (s.extract 1 s.size)).getD j 0) = true) := Lib.hid fun h j hj => by
                by_cases hjk : j < k
                · exact hall.out j hjk
                · obtain rfl : j = k := by omega
                  exact h
              generalize (L (s.extract 1 s.size)).getD k 0 = c at hcell HRN HNX
              cases hc : letB c with
              | true =>
                have HN2 := Lib.hid (HNX.out hc)
                have C1 : Hid (∀ W, Calls Tryd.prog 26 #[.int .u8 (c.toNat : Int)] W fun e w' => e = .returned (.bool true) ∧ W = w') := Lib.hid fun W => by rw [← hc]; exact CL.out c W
                clear hc HNX HRN
                go_wp2_with fail
                refine (C1.out _).mono ?_
                rintro e w' ⟨rfl, rfl⟩
                go_wp2_with fail
                go_roundw
                case rel => exact ⟨k + 1, by omega, by go_num, by first | trivial | rfl, HN2⟩
                case measure => simp [intOf]; omega
              | false =>
                have HF : Hid (readL (L s) = none) := Lib.hid (HEQ.out.trans (HRN.out hc))
                have C1 : Hid (∀ W, Calls Tryd.prog 26 #[.int .u8 (c.toNat : Int)] W fun e w' => e = .returned (.bool false) ∧ W = w') := Lib.hid fun W => by rw [← hc]; exact CL.out c W
                clear hc HNX HRN
                go_wp2_with fail
                refine (C1.out _).mono ?_
                rintro e w' ⟨rfl, rfl⟩
                go_wp2_with fail
                go_ret2
                exact ⟨by rw [HF.out]; rfl, HB.out⟩
            · have hkz : k = (s.extract 1 s.size).size := by have h2 := HSZ.out; omega
              have hkz2 : k = (s.size - 1) := by omega
              have C1 := Lib.hid (spi_all (b := 8) (by decide) (s.extract 1 s.size) wr HT.out (fun c hc => by
                obtain ⟨i, hi, e⟩ := List.getElem_of_mem hc
                have := hall.out i (by rw [hkz]; exact hi)
                rwa [List.getD_eq_getElem?_getD, List.getElem?_eq_getElem hi, Option.getD_some, e] at this) (fun h => (HERR.out h).below HB.out))
              clear hall hkz
              go_wp2_with fail
              refine C1.out.mono ?_
              rintro e w2 ⟨⟨n, hn, rfl⟩ | ⟨hn, v, ty, x, rfl⟩, hb2⟩
              · have HF : Hid (readL (L s) = some n ∧ Below w.heap.size w w2) := Lib.hid ⟨HEQ.out.trans hn, HB.out.trans (hb2.mono HB.out.size)⟩
                clear hn hb2
                go_wp2_with fail
                go_ret2
                exact ⟨by rw [HF.out.1]; rfl, HF.out.2⟩
              · have HF : Hid (readL (L s) = none ∧ Below w.heap.size w w2) := Lib.hid ⟨HEQ.out.trans hn, HB.out.trans (hb2.mono HB.out.size)⟩
                clear hn hb2
                go_wp2_with fail
                go_ret2
                exact ⟨by rw [HF.out.1]; rfl, HF.out.2⟩
    · have heq : readL (L s) = readB 10 (L s) := by rw [hl]; simp [readL, hc]
      have htz := hs
      have t1' : ((s.extract 0 2).toList == [48, 120]) = false := by rw [t1]; simp [hc]
      have t2' : ((s.extract 0 2).toList == [48, 88]) = false := by rw [t2]; simp [hc]
      have i48 : (((c.toNat : Nat) : Int) == 48) = false := by
        rw [beq_eq_false_iff_ne]
        intro e
        exact hc (UInt8.toNat_inj.1 (by show c.toNat = 48; omega))
      clear t1 t2 he1 he2 he hl hz2 h0 hz1 hc
      have HEQ : Hid (readL (L s) = readB 10 (L (s))) := Lib.hid heq
      have HERR : Hid (readB 10 (L (s)) = none → ErrV w) := Lib.hid fun h => herr (heq.trans h)
      have HT : Hid ((s).size ≤ 1000) := Lib.hid htz
      have HSZ : Hid ((s).size = s.size) := Lib.hid (by first | rfl | (rw [← L_size, L_extract, List.length_take, List.length_drop, L_size]; omega))
      clear heq herr htz
      have HM := Lib.hid (BytesAt.made w 5 (s))
      have HB := Lib.hid (below_bytesWorld w 5 (s))
      obtain ⟨wb, hwb⟩ : ∃ wb, wb = Lib.bytesWorld w 5 (s) := ⟨_, rfl⟩
      rw [← hwb] at HM HB
      have HWB := Lib.hid hwb
      clear hwb
      go_enter Tryd.func11, Tryd.ntmps11
      go_wp2_with fail
      rw [← HWB.out]
      go_loopw [39] (fun i wr => ∃ k : Nat, k ≤ s.size ∧ i = .int .i64 k ∧ wr = wb ∧ Hid (∀ j, j < k → letB ((L (s)).getD j 0) = true)) (fun i _ => s.size - (intOf i).toNat)
      case atStart => exact ⟨0, Nat.zero_le _, rfl, rfl, Lib.hid fun j hj => absurd hj (by omega)⟩
      case round =>
        obtain ⟨k, hk, rfl, rfl, hall⟩ := hrel
        have hk1000 : k ≤ 1000 := Nat.le_trans hk (by have h1 := HT.out; have h2 := HSZ.out; omega)
        have hz1000 : s.size ≤ 1000 := by have h1 := HT.out; have h2 := HSZ.out; omega
        by_cases hlt : k < s.size
        · have hcell := (HM.out k (by first | (rw [L_size, HSZ.out]; exact hlt) | (rw [L_size]; exact hlt))).1
          have HRN : Hid (letB ((L (s)).getD k 0) = false → readB 10 (L (s)) = none) := Lib.hid fun h => readB_off (by decide) (by first | (rw [L_size, HSZ.out]; exact hlt) | (rw [L_size]; exact hlt)) h
          have HNX : Hid (letB ((L (s)).getD k 0) = true → ∀ j, j < k + 1 → letB ((L (s)).getD j 0) = true) := Lib.hid fun h j hj => by
            by_cases hjk : j < k
            · exact hall.out j hjk
            · obtain rfl : j = k := by omega
              exact h
          generalize (L (s)).getD k 0 = c at hcell HRN HNX
          cases hc : letB c with
          | true =>
            have HN2 := Lib.hid (HNX.out hc)
            have C1 : Hid (∀ W, Calls Tryd.prog 26 #[.int .u8 (c.toNat : Int)] W fun e w' => e = .returned (.bool true) ∧ W = w') := Lib.hid fun W => by rw [← hc]; exact CL.out c W
            clear hc HNX HRN
            go_wp2_with fail
            refine (C1.out _).mono ?_
            rintro e w' ⟨rfl, rfl⟩
            go_wp2_with fail
            go_roundw
            case rel => exact ⟨k + 1, by omega, by go_num, by first | trivial | rfl, HN2⟩
            case measure => simp [intOf]; omega
          | false =>
            have HF : Hid (readL (L s) = none) := Lib.hid (HEQ.out.trans (HRN.out hc))
            have C1 : Hid (∀ W, Calls Tryd.prog 26 #[.int .u8 (c.toNat : Int)] W fun e w' => e = .returned (.bool false) ∧ W = w') := Lib.hid fun W => by rw [← hc]; exact CL.out c W
            clear hc HNX HRN
            go_wp2_with fail
            refine (C1.out _).mono ?_
            rintro e w' ⟨rfl, rfl⟩
            go_wp2_with fail
            go_ret2
            exact ⟨by rw [HF.out]; rfl, HB.out⟩
        · have hkz : k = (s).size := by have h2 := HSZ.out; omega
          have hkz2 : k = s.size := by omega
          have C1 := Lib.hid (spi_all (b := 10) (by decide) (s) wr HT.out (fun c hc => by
            obtain ⟨i, hi, e⟩ := List.getElem_of_mem hc
            have := hall.out i (by rw [hkz]; exact hi)
            rwa [List.getD_eq_getElem?_getD, List.getElem?_eq_getElem hi, Option.getD_some, e] at this) (fun h => (HERR.out h).below HB.out))
          clear hall hkz
          go_wp2_with fail
          refine C1.out.mono ?_
          rintro e w2 ⟨⟨n, hn, rfl⟩ | ⟨hn, v, ty, x, rfl⟩, hb2⟩
          · have HF : Hid (readL (L s) = some n ∧ Below w.heap.size w w2) := Lib.hid ⟨HEQ.out.trans hn, HB.out.trans (hb2.mono HB.out.size)⟩
            clear hn hb2
            go_wp2_with fail
            go_ret2
            exact ⟨by rw [HF.out.1]; rfl, HF.out.2⟩
          · have HF : Hid (readL (L s) = none ∧ Below w.heap.size w w2) := Lib.hid ⟨HEQ.out.trans hn, HB.out.trans (hb2.mono HB.out.size)⟩
            clear hn hb2
            go_wp2_with fail
            go_ret2
            exact ⟨by rw [HF.out.1]; rfl, HF.out.2⟩
  · by_cases h1 : 1 < s.size
    · obtain ⟨c, d, hl⟩ : ∃ c d, L s = [c, d] := by
        have hz := L_size s
        rcases h : L s with _ | ⟨c, _ | ⟨d, _ | ⟨x, r⟩⟩⟩
        · rw [h] at hz; simp at hz; omega
        · rw [h] at hz; simp at hz; omega
        · exact ⟨c, d, rfl⟩
        · rw [h] at hz; simp at hz; omega
      have he1 : L (s.extract 1 s.size) = [d] := by
        rw [L_extract, List.take_of_length_le (by simp [L_size]), hl]; rfl
      have ix := fun W => run_idx (P := Tryd.prog) Tryd.underlying9 s (k := .i64) 0 0 rfl (by omega) W
      have h0 : (L s).getD 0 0 = c := by rw [hl]; rfl
      rw [h0] at ix
      have hz1 : (s.extract 1 s.size).size ≤ 1000 := by have := extract_len s 1 s.size; omega
      by_cases hc : c = 48
      · subst hc
        have i48 : ((((48 : UInt8).toNat : Nat) : Int) == 48) = true := by decide
        have heq : readL (L s) = readB 8 (L (s.extract 1 s.size)) := by rw [hl, he1]; simp [readL]
        have htz := hz1
        clear he1 hl h0
        have HEQ : Hid (readL (L s) = readB 8 (L (s.extract 1 s.size))) := Lib.hid heq
        have HERR : Hid (readB 8 (L (s.extract 1 s.size)) = none → ErrV w) := Lib.hid fun h => herr (heq.trans h)
        have HT : Hid ((s.extract 1 s.size).size ≤ 1000) := Lib.hid htz
        have HSZ : Hid ((s.extract 1 s.size).size = (s.size - 1)) := Lib.hid (by first | rfl | (rw [← L_size, L_extract, List.length_take, List.length_drop, L_size]; omega))
        clear heq herr htz
        have HM := Lib.hid (BytesAt.made w 5 (s.extract 1 s.size))
        have HB := Lib.hid (below_bytesWorld w 5 (s.extract 1 s.size))
        obtain ⟨wb, hwb⟩ : ∃ wb, wb = Lib.bytesWorld w 5 (s.extract 1 s.size) := ⟨_, rfl⟩
        rw [← hwb] at HM HB
        have HWB := Lib.hid hwb
        clear hwb
        go_enter Tryd.func11, Tryd.ntmps11
        go_wp2_with fail
        rw [← HWB.out]
        go_loopw [39] (fun i wr => ∃ k : Nat, k ≤ (s.size - 1) ∧ i = .int .i64 k ∧ wr = wb ∧ Hid (∀ j, j < k → letB ((L (s.extract 1 s.size)).getD j 0) = true)) (fun i _ => (s.size - 1) - (intOf i).toNat)
        case atStart => exact ⟨0, Nat.zero_le _, rfl, rfl, Lib.hid fun j hj => absurd hj (by omega)⟩
        case round =>
          obtain ⟨k, hk, rfl, rfl, hall⟩ := hrel
          have hk1000 : k ≤ 1000 := Nat.le_trans hk (by have h1 := HT.out; have h2 := HSZ.out; omega)
          have hz1000 : (s.size - 1) ≤ 1000 := by have h1 := HT.out; have h2 := HSZ.out; omega
          by_cases hlt : k < (s.size - 1)
          · have hcell := (HM.out k (by first | (rw [L_size, HSZ.out]; exact hlt) | (rw [L_size]; exact hlt))).1
            have HRN : Hid (letB ((L (s.extract 1 s.size)).getD k 0) = false → readB 8 (L (s.extract 1 s.size)) = none) := Lib.hid fun h => readB_off (by decide) (by first | (rw [L_size, HSZ.out]; exact hlt) | (rw [L_size]; exact hlt)) h
            have HNX : Hid (letB ((L (s.extract 1 s.size)).getD k 0) = true → ∀ j, j < k + 1 → letB ((L (s.extract 1 s.size)).getD j 0) = true) := Lib.hid fun h j hj => by
              by_cases hjk : j < k
              · exact hall.out j hjk
              · obtain rfl : j = k := by omega
                exact h
            generalize (L (s.extract 1 s.size)).getD k 0 = c at hcell HRN HNX
            cases hc : letB c with
            | true =>
              have HN2 := Lib.hid (HNX.out hc)
              have C1 : Hid (∀ W, Calls Tryd.prog 26 #[.int .u8 (c.toNat : Int)] W fun e w' => e = .returned (.bool true) ∧ W = w') := Lib.hid fun W => by rw [← hc]; exact CL.out c W
              clear hc HNX HRN
              go_wp2_with fail
              refine (C1.out _).mono ?_
              rintro e w' ⟨rfl, rfl⟩
              go_wp2_with fail
              go_roundw
              case rel => exact ⟨k + 1, by omega, by go_num, by first | trivial | rfl, HN2⟩
              case measure => simp [intOf]; omega
            | false =>
              have HF : Hid (readL (L s) = none) := Lib.hid (HEQ.out.trans (HRN.out hc))
              have C1 : Hid (∀ W, Calls Tryd.prog 26 #[.int .u8 (c.toNat : Int)] W fun e w' => e = .returned (.bool false) ∧ W = w') := Lib.hid fun W => by rw [← hc]; exact CL.out c W
              clear hc HNX HRN
              go_wp2_with fail
              refine (C1.out _).mono ?_
              rintro e w' ⟨rfl, rfl⟩
              go_wp2_with fail
              go_ret2
              exact ⟨by rw [HF.out]; rfl, HB.out⟩
          · have hkz : k = (s.extract 1 s.size).size := by have h2 := HSZ.out; omega
            have hkz2 : k = (s.size - 1) := by omega
            have C1 := Lib.hid (spi_all (b := 8) (by decide) (s.extract 1 s.size) wr HT.out (fun c hc => by
              obtain ⟨i, hi, e⟩ := List.getElem_of_mem hc
              have := hall.out i (by rw [hkz]; exact hi)
              rwa [List.getD_eq_getElem?_getD, List.getElem?_eq_getElem hi, Option.getD_some, e] at this) (fun h => (HERR.out h).below HB.out))
            clear hall hkz
            go_wp2_with fail
            refine C1.out.mono ?_
            rintro e w2 ⟨⟨n, hn, rfl⟩ | ⟨hn, v, ty, x, rfl⟩, hb2⟩
            · have HF : Hid (readL (L s) = some n ∧ Below w.heap.size w w2) := Lib.hid ⟨HEQ.out.trans hn, HB.out.trans (hb2.mono HB.out.size)⟩
              clear hn hb2
              go_wp2_with fail
              go_ret2
              exact ⟨by rw [HF.out.1]; rfl, HF.out.2⟩
            · have HF : Hid (readL (L s) = none ∧ Below w.heap.size w w2) := Lib.hid ⟨HEQ.out.trans hn, HB.out.trans (hb2.mono HB.out.size)⟩
              clear hn hb2
              go_wp2_with fail
              go_ret2
              exact ⟨by rw [HF.out.1]; rfl, HF.out.2⟩
      · have i48 : (((c.toNat : Nat) : Int) == 48) = false := by
          rw [beq_eq_false_iff_ne]
          intro e
          exact hc (UInt8.toNat_inj.1 (by show c.toNat = 48; omega))
        have heq : readL (L s) = readB 10 (L s) := by rw [hl]; simp [readL, hc]
        have htz := hs
        clear he1 hl h0 hz1 hc
        have HEQ : Hid (readL (L s) = readB 10 (L (s))) := Lib.hid heq
        have HERR : Hid (readB 10 (L (s)) = none → ErrV w) := Lib.hid fun h => herr (heq.trans h)
        have HT : Hid ((s).size ≤ 1000) := Lib.hid htz
        have HSZ : Hid ((s).size = s.size) := Lib.hid (by first | rfl | (rw [← L_size, L_extract, List.length_take, List.length_drop, L_size]; omega))
        clear heq herr htz
        have HM := Lib.hid (BytesAt.made w 5 (s))
        have HB := Lib.hid (below_bytesWorld w 5 (s))
        obtain ⟨wb, hwb⟩ : ∃ wb, wb = Lib.bytesWorld w 5 (s) := ⟨_, rfl⟩
        rw [← hwb] at HM HB
        have HWB := Lib.hid hwb
        clear hwb
        go_enter Tryd.func11, Tryd.ntmps11
        go_wp2_with fail
        rw [← HWB.out]
        go_loopw [39] (fun i wr => ∃ k : Nat, k ≤ s.size ∧ i = .int .i64 k ∧ wr = wb ∧ Hid (∀ j, j < k → letB ((L (s)).getD j 0) = true)) (fun i _ => s.size - (intOf i).toNat)
        case atStart => exact ⟨0, Nat.zero_le _, rfl, rfl, Lib.hid fun j hj => absurd hj (by omega)⟩
        case round =>
          obtain ⟨k, hk, rfl, rfl, hall⟩ := hrel
          have hk1000 : k ≤ 1000 := Nat.le_trans hk (by have h1 := HT.out; have h2 := HSZ.out; omega)
          have hz1000 : s.size ≤ 1000 := by have h1 := HT.out; have h2 := HSZ.out; omega
          by_cases hlt : k < s.size
          · have hcell := (HM.out k (by first | (rw [L_size, HSZ.out]; exact hlt) | (rw [L_size]; exact hlt))).1
            have HRN : Hid (letB ((L (s)).getD k 0) = false → readB 10 (L (s)) = none) := Lib.hid fun h => readB_off (by decide) (by first | (rw [L_size, HSZ.out]; exact hlt) | (rw [L_size]; exact hlt)) h
            have HNX : Hid (letB ((L (s)).getD k 0) = true → ∀ j, j < k + 1 → letB ((L (s)).getD j 0) = true) := Lib.hid fun h j hj => by
              by_cases hjk : j < k
              · exact hall.out j hjk
              · obtain rfl : j = k := by omega
                exact h
            generalize (L (s)).getD k 0 = c at hcell HRN HNX
            cases hc : letB c with
            | true =>
              have HN2 := Lib.hid (HNX.out hc)
              have C1 : Hid (∀ W, Calls Tryd.prog 26 #[.int .u8 (c.toNat : Int)] W fun e w' => e = .returned (.bool true) ∧ W = w') := Lib.hid fun W => by rw [← hc]; exact CL.out c W
              clear hc HNX HRN
              go_wp2_with fail
              refine (C1.out _).mono ?_
              rintro e w' ⟨rfl, rfl⟩
              go_wp2_with fail
              go_roundw
              case rel => exact ⟨k + 1, by omega, by go_num, by first | trivial | rfl, HN2⟩
              case measure => simp [intOf]; omega
            | false =>
              have HF : Hid (readL (L s) = none) := Lib.hid (HEQ.out.trans (HRN.out hc))
              have C1 : Hid (∀ W, Calls Tryd.prog 26 #[.int .u8 (c.toNat : Int)] W fun e w' => e = .returned (.bool false) ∧ W = w') := Lib.hid fun W => by rw [← hc]; exact CL.out c W
              clear hc HNX HRN
              go_wp2_with fail
              refine (C1.out _).mono ?_
              rintro e w' ⟨rfl, rfl⟩
              go_wp2_with fail
              go_ret2
              exact ⟨by rw [HF.out]; rfl, HB.out⟩
          · have hkz : k = (s).size := by have h2 := HSZ.out; omega
            have hkz2 : k = s.size := by omega
            have C1 := Lib.hid (spi_all (b := 10) (by decide) (s) wr HT.out (fun c hc => by
              obtain ⟨i, hi, e⟩ := List.getElem_of_mem hc
              have := hall.out i (by rw [hkz]; exact hi)
              rwa [List.getD_eq_getElem?_getD, List.getElem?_eq_getElem hi, Option.getD_some, e] at this) (fun h => (HERR.out h).below HB.out))
            clear hall hkz
            go_wp2_with fail
            refine C1.out.mono ?_
            rintro e w2 ⟨⟨n, hn, rfl⟩ | ⟨hn, v, ty, x, rfl⟩, hb2⟩
            · have HF : Hid (readL (L s) = some n ∧ Below w.heap.size w w2) := Lib.hid ⟨HEQ.out.trans hn, HB.out.trans (hb2.mono HB.out.size)⟩
              clear hn hb2
              go_wp2_with fail
              go_ret2
              exact ⟨by rw [HF.out.1]; rfl, HF.out.2⟩
            · have HF : Hid (readL (L s) = none ∧ Below w.heap.size w w2) := Lib.hid ⟨HEQ.out.trans hn, HB.out.trans (hb2.mono HB.out.size)⟩
              clear hn hb2
              go_wp2_with fail
              go_ret2
              exact ⟨by rw [HF.out.1]; rfl, HF.out.2⟩
    · have heq : readL (L s) = readB 10 (L s) := by
        have hz := L_size s
        rcases h : L s with _ | ⟨c, _ | ⟨d, r⟩⟩
        · rw [readB_nil]; rfl
        · rfl
        · rw [h] at hz; simp at hz; omega
      have htz := hs
      have HEQ : Hid (readL (L s) = readB 10 (L (s))) := Lib.hid heq
      have HERR : Hid (readB 10 (L (s)) = none → ErrV w) := Lib.hid fun h => herr (heq.trans h)
      have HT : Hid ((s).size ≤ 1000) := Lib.hid htz
      have HSZ : Hid ((s).size = s.size) := Lib.hid (by first | rfl | (rw [← L_size, L_extract, List.length_take, List.length_drop, L_size]; omega))
      clear heq herr htz
      have HM := Lib.hid (BytesAt.made w 5 (s))
      have HB := Lib.hid (below_bytesWorld w 5 (s))
      obtain ⟨wb, hwb⟩ : ∃ wb, wb = Lib.bytesWorld w 5 (s) := ⟨_, rfl⟩
      rw [← hwb] at HM HB
      have HWB := Lib.hid hwb
      clear hwb
      go_enter Tryd.func11, Tryd.ntmps11
      go_wp2_with fail
      rw [← HWB.out]
      go_loopw [39] (fun i wr => ∃ k : Nat, k ≤ s.size ∧ i = .int .i64 k ∧ wr = wb ∧ Hid (∀ j, j < k → letB ((L (s)).getD j 0) = true)) (fun i _ => s.size - (intOf i).toNat)
      case atStart => exact ⟨0, Nat.zero_le _, rfl, rfl, Lib.hid fun j hj => absurd hj (by omega)⟩
      case round =>
        obtain ⟨k, hk, rfl, rfl, hall⟩ := hrel
        have hk1000 : k ≤ 1000 := Nat.le_trans hk (by have h1 := HT.out; have h2 := HSZ.out; omega)
        have hz1000 : s.size ≤ 1000 := by have h1 := HT.out; have h2 := HSZ.out; omega
        by_cases hlt : k < s.size
        · have hcell := (HM.out k (by first | (rw [L_size, HSZ.out]; exact hlt) | (rw [L_size]; exact hlt))).1
          have HRN : Hid (letB ((L (s)).getD k 0) = false → readB 10 (L (s)) = none) := Lib.hid fun h => readB_off (by decide) (by first | (rw [L_size, HSZ.out]; exact hlt) | (rw [L_size]; exact hlt)) h
          have HNX : Hid (letB ((L (s)).getD k 0) = true → ∀ j, j < k + 1 → letB ((L (s)).getD j 0) = true) := Lib.hid fun h j hj => by
            by_cases hjk : j < k
            · exact hall.out j hjk
            · obtain rfl : j = k := by omega
              exact h
          generalize (L (s)).getD k 0 = c at hcell HRN HNX
          cases hc : letB c with
          | true =>
            have HN2 := Lib.hid (HNX.out hc)
            have C1 : Hid (∀ W, Calls Tryd.prog 26 #[.int .u8 (c.toNat : Int)] W fun e w' => e = .returned (.bool true) ∧ W = w') := Lib.hid fun W => by rw [← hc]; exact CL.out c W
            clear hc HNX HRN
            go_wp2_with fail
            refine (C1.out _).mono ?_
            rintro e w' ⟨rfl, rfl⟩
            go_wp2_with fail
            go_roundw
            case rel => exact ⟨k + 1, by omega, by go_num, by first | trivial | rfl, HN2⟩
            case measure => simp [intOf]; omega
          | false =>
            have HF : Hid (readL (L s) = none) := Lib.hid (HEQ.out.trans (HRN.out hc))
            have C1 : Hid (∀ W, Calls Tryd.prog 26 #[.int .u8 (c.toNat : Int)] W fun e w' => e = .returned (.bool false) ∧ W = w') := Lib.hid fun W => by rw [← hc]; exact CL.out c W
            clear hc HNX HRN
            go_wp2_with fail
            refine (C1.out _).mono ?_
            rintro e w' ⟨rfl, rfl⟩
            go_wp2_with fail
            go_ret2
            exact ⟨by rw [HF.out]; rfl, HB.out⟩
        · have hkz : k = (s).size := by have h2 := HSZ.out; omega
          have hkz2 : k = s.size := by omega
          have C1 := Lib.hid (spi_all (b := 10) (by decide) (s) wr HT.out (fun c hc => by
            obtain ⟨i, hi, e⟩ := List.getElem_of_mem hc
            have := hall.out i (by rw [hkz]; exact hi)
            rwa [List.getD_eq_getElem?_getD, List.getElem?_eq_getElem hi, Option.getD_some, e] at this) (fun h => (HERR.out h).below HB.out))
          clear hall hkz
          go_wp2_with fail
          refine C1.out.mono ?_
          rintro e w2 ⟨⟨n, hn, rfl⟩ | ⟨hn, v, ty, x, rfl⟩, hb2⟩
          · have HF : Hid (readL (L s) = some n ∧ Below w.heap.size w w2) := Lib.hid ⟨HEQ.out.trans hn, HB.out.trans (hb2.mono HB.out.size)⟩
            clear hn hb2
            go_wp2_with fail
            go_ret2
            exact ⟨by rw [HF.out.1]; rfl, HF.out.2⟩
          · have HF : Hid (readL (L s) = none ∧ Below w.heap.size w w2) := Lib.hid ⟨HEQ.out.trans hn, HB.out.trans (hb2.mono HB.out.size)⟩
            clear hn hb2
            go_wp2_with fail
            go_ret2
            exact ⟨by rw [HF.out.1]; rfl, HF.out.2⟩
end Go.Proofs.YtpgneaekflhgnaaDoor
