/-
  Encode where it answers an error; the walk of UuHeads.
-/
import Derived.Test.YtjnknckbdfgjlaaU4
namespace Go.Proofs.Ytjnknckbdfgjlaa
open Go.RowKit

set_option maxHeartbeats 400000 in
theorem encode_range (m : Int) (name s : ByteArray) (w : World) (hm : (decide (0 ≤ m) && decide (m ≤ 4095)) = false) :
    Calls Try.prog 9 #[.int .i64 m, .string name, .string s] w fun e w' => e = .returned (.tuple #[.string ⟨#[]⟩, .int .i64 10]) ∧ w = w' := by
  have HM := Lib.hid hm
  clear hm
  go_enter Try.func9, Try.ntmps9
  go_wp2_with fail
  refine (modeRight_any m _ false HM.out).mono ?_
  rintro e w' ⟨rfl, rfl⟩
  go_wp2_with fail
  go_ret2
  exact ⟨rfl, rfl⟩

set_option maxHeartbeats 400000 in
theorem encode_form (m : Nat) (name s : ByteArray) (w : World) (hm : m ≤ 4095) (hn : nameB (L name) = false) (hs : name.size ≤ maxLen) :
    Calls Try.prog 9 #[.int .i64 m, .string name, .string s] w fun e w' => e = .returned (.tuple #[.string ⟨#[]⟩, .int .i64 11]) ∧ w = w' := by
  cases hr : rightB (L name)
  · have HR := Lib.hid hr
    clear hr hn
    go_enter Try.func9, Try.ntmps9
    go_wp2_with fail
    refine (modeRight_any m _ true (by simp; omega)).mono ?_
    rintro e w' ⟨rfl, rfl⟩
    go_wp2_with fail
    refine (right_any name _ hs).mono ?_
    rw [HR.out]
    rintro e w' ⟨rfl, rfl⟩
    go_wp2_with fail
    go_ret2
    exact ⟨rfl, rfl⟩
  · have h10 : (L name).contains 10 = true := by
      have := hn
      simp only [nameB, hr, Bool.true_and, Bool.not_eq_false'] at this
      exact this
    have HR := Lib.hid hr
    have H10 := Lib.hid h10
    clear hr hn h10
    go_enter Try.func9, Try.ntmps9
    go_wp2_with fail
    refine (modeRight_any m _ true (by simp; omega)).mono ?_
    rintro e w' ⟨rfl, rfl⟩
    go_wp2_with fail
    refine (right_any name _ hs).mono ?_
    rw [HR.out]
    rintro e w' ⟨rfl, rfl⟩
    go_wp2_with fail
    refine (indexByte_any name 10 true _ H10.out).mono ?_
    rintro e w' ⟨⟨n, rfl, hn⟩, rfl⟩
    have hn0 : 0 ≤ n := by simpa using hn
    clear hn
    go_wp2_with fail
    go_ret2
    exact ⟨rfl, rfl⟩

/-! ### the first line -/
theorem headP_head (m : Nat) (name : List UInt8) (hn : rightB name = true) : headP ((headL m name).take ((headL m name).length - 1)) = some (m % 512, name) := by
  have e : (headL m name).take ((headL m name).length - 1) = beg ++ ([UInt8.ofNat (48 + m / 64 % 8), UInt8.ofNat (48 + m / 8 % 8), UInt8.ofNat (48 + m % 8)] ++ 32 :: name) := by
    have e0 : headL m name = (beg ++ ([UInt8.ofNat (48 + m / 64 % 8), UInt8.ofNat (48 + m / 8 % 8), UInt8.ofNat (48 + m % 8)] ++ 32 :: name)) ++ [10] := by simp [headL, beg, octL]
    rw [e0, List.length_append, List.length_singleton, Nat.add_sub_cancel, List.take_left]
  have t : ∀ x : Nat, x < 8 → (UInt8.ofNat (48 + x)).toNat = 48 + x := fun x hx => by simp; omega
  have o : ∀ x : Nat, x < 8 → octB (UInt8.ofNat (48 + x)) = true := fun x hx => by simp only [octB, t x hx, Bool.and_eq_true, decide_eq_true_eq]; omega
  rw [e, headP_mk, if_pos ⟨hn, o _ (by omega), o _ (by omega), o _ (by omega)⟩, t _ (by omega), t _ (by omega), t _ (by omega)]
  congr 2
  omega

theorem head_last (m : Nat) (name : List UInt8) : (headL m name).getD ((headL m name).length - 1) 0 = 10 := by
  have e0 : headL m name = ([98, 101, 103, 105, 110, 32] ++ (octL m).tail ++ [32] ++ name) ++ [10] := rfl
  rw [e0, List.length_append, List.length_singleton, Nat.add_sub_cancel, List.getD, List.getElem?_append_right (Nat.le_refl _), Nat.sub_self]
  rfl

theorem head_no10 (m : Nat) (name : List UInt8) (hn : name.contains 10 = false) : ∀ j, j < (headL m name).length - 1 → (headL m name).getD j 0 ≠ 10 := by
  intro j hj he
  have e : headL m name = (beg ++ ([UInt8.ofNat (48 + m / 64 % 8), UInt8.ofNat (48 + m / 8 % 8), UInt8.ofNat (48 + m % 8)] ++ 32 :: name)) ++ [10] := by
    simp [headL, beg, octL]
  have hl : j < (beg ++ ([UInt8.ofNat (48 + m / 64 % 8), UInt8.ofNat (48 + m / 8 % 8), UInt8.ofNat (48 + m % 8)] ++ 32 :: name)).length := by
    rw [e, List.length_append] at hj; simpa using hj
  rw [e, List.getD, List.getElem?_append_left hl, List.getElem?_eq_getElem hl, Option.getD_some] at he
  have hm := List.getElem_mem hl
  rw [he] at hm
  have t : ∀ x : Nat, x < 8 → UInt8.ofNat (48 + x) ≠ 10 := fun x hx h => by have := congrArg UInt8.toNat h; simp at this; omega
  simp only [beg, List.mem_append, List.mem_cons, List.not_mem_nil, or_false] at hm
  rcases hm with hm | hm | hm | hm
  · revert hm; decide
  · rcases hm with hm | hm | hm
    · exact t _ (by omega) hm.symm
    · exact t _ (by omega) hm.symm
    · exact t _ (by omega) hm.symm
  · revert hm; decide
  · have := List.contains_iff_mem.2 hm; rw [hn] at this; cases this

set_option maxHeartbeats 1000000 in
theorem heads_any (m0 : Int) (name s : ByteArray) (w : World) (hs : s.size ≤ maxLen) (hns : name.size ≤ maxLen) (hv : Held w) :
    Calls Try.prog 4 #[.int .i64 m0, .string name, .string s] w fun e w' => e = .returned (.bool true) ∧ Below w.heap.size w w' := by
  have HV := Lib.hid hv
  have HNS := Lib.hid hns
  unfold maxLen at hs hns
  clear hv
  by_cases h1 : s.size ≤ 300
  · by_cases h2 : name.size ≤ 5000
    · skip
      cases hm : (decide (0 ≤ m0) && decide (m0 ≤ 4095))
      · have HM := Lib.hid hm
        have hmc : m0 < 0 ∨ 4095 < m0 := by
          simp only [Bool.and_eq_false_iff, decide_eq_false_iff_not] at hm; omega
        clear hm
        rcases hmc with hmc | hmc
        all_goals
          go_enter Try.func4, Try.ntmps4
          go_wp2_with fail
          refine (anchor_any _).mono ?_
          rintro e w1 ⟨rfl, hb1⟩
          go_wp2_with fail
          refine (encode_range m0 name s _ HM.out).mono ?_
          rintro e w2 ⟨rfl, rfl⟩
          go_wp2_with fail
          go_ret
          exact ⟨rfl, hb1⟩
      · have hmc : 0 ≤ m0 ∧ m0 ≤ 4095 := by simpa using hm
        clear hm
        obtain ⟨hm1, hm2⟩ := hmc
        obtain ⟨m, rfl⟩ := Int.eq_ofNat_of_zero_le hm1
        have hm3 : m ≤ 4095 := by omega
        cases hn : nameB (L name)
        · have HN := Lib.hid hn
          clear hn
          go_enter Try.func4, Try.ntmps4
          go_wp2_with fail
          refine (anchor_any _).mono ?_
          rintro e w1 ⟨rfl, hb1⟩
          go_wp2_with fail
          refine (encode_form m name s _ hm3 HN.out HNS.out).mono ?_
          rintro e w2 ⟨rfl, rfl⟩
          go_wp2_with fail
          go_ret
          exact ⟨rfl, hb1⟩
        · have hn' := hn
          simp only [nameB, Bool.and_eq_true, Bool.not_eq_true'] at hn'
          obtain ⟨p, hp⟩ : ∃ p, p = (headL m (L name)).length - 1 := ⟨_, rfl⟩
          obtain ⟨t, ht⟩ : ∃ t, t = S (headL m (L name) ++ restL (L s)) := ⟨_, rfl⟩
          have hhl : (headL m (L name)).length = name.size + 11 := by
            have : (L name).length = name.size := rfl
            simp [headL, octL]; omega
          have hpt : p < t.size := by rw [ht, S_size, List.length_append]; omega
          have htl : t.size ≤ 30000 := by
            have h2 := restL_len (L s).length (L s) (Nat.le_refl _)
            have h3 : (L s).length = s.size := rfl
            rw [ht, S_size, List.length_append]; omega
          have hno : ∀ j, j < p → (L t).getD j 0 ≠ 10 := by
            intro j hj
            have hjl : j < (headL m (L name)).length := by omega
            rw [ht, L_S, List.getD, List.getElem?_append_left hjl, ← List.getD]
            exact head_no10 m (L name) hn'.2 j (by omega)
          have hyes : (L t).getD p 0 = 10 := by
            have hjl : p < (headL m (L name)).length := by omega
            rw [ht, L_S, List.getD, List.getElem?_append_left hjl, ← List.getD, hp]
            exact head_last m (L name)
          have hhp : headP (L (t.extract 0 p)) = some (m % 512, L name) := by
            rw [L_extract, ht, L_S, List.drop_zero, Nat.sub_zero, List.take_append_of_le_length (by omega), hp]
            exact headP_head m (L name) hn'.1
          have HN := Lib.hid hn
          have HT := Lib.hid ht
          have HNO := Lib.hid hno
          have HY := Lib.hid hyes
          have HHP := Lib.hid hhp
          clear hn hn' hp ht hhl hno hyes hhp
          go_enter Try.func4, Try.ntmps4
          go_wp2_with fail
          refine (anchor_any _).mono ?_
          rintro e w1 ⟨rfl, hb1⟩
          go_wp2_with fail
          refine (encode_any m name s _ hm3 HN.out (by omega)).mono ?_
          rw [← HT.out]
          rintro e w2 ⟨rfl, hb2⟩
          have hb3 := hb1.trans (hb2.mono hb1.size)
          clear hb1 hb2
          go_wp2_with fail
          go_loop [9] (fun i => ∃ k : Nat, k ≤ p ∧ i = .int .i64 k) (fun i => p - (intOf i).toNat)
          case atStart => exact ⟨0, by omega, rfl⟩
          case round =>
            obtain ⟨k, hk, rfl⟩ := hrel
            have i0 := run_idx (P := Try.prog) (k := .i64) Try.underlying9 t (k : Int) k rfl (by omega)
            by_cases hlt : k < p
            · have hne := HNO.out k hlt
              obtain ⟨x, hx⟩ : ∃ x : Nat, x = ((L t).getD k 0).toNat := ⟨_, rfl⟩
              have hx10 : ((x : Int) != 10) = true := by
                rw [bne_iff_ne]; intro h
                apply hne
                apply UInt8.toNat_inj.1
                rw [← hx]
                have h3 : x = 10 := by omega
                rw [h3]; rfl
              rw [← hx] at i0
              clear hx hne
              go_wp2_with fail
              go_round
              case rel => exact ⟨k + 1, by omega, by go_num⟩
              case measure => simp [intOf]; omega
            · obtain rfl : k = p := by omega
              rw [HY.out] at i0
              go_wp2_with fail
              refine (head_any _ _ (by simp; omega) (HV.out.below HV.out.2 hb3)).mono ?_
              rw [HHP.out]
              rintro e w5 ⟨rfl, hb5⟩
              simp only [headV]
              go_wp2_with fail
              go_ret
              exact ⟨ret_bool (by rw [toList_L, toList_L, L_S]; simp), hb3.trans (hb5.mono hb3.size)⟩
    · go_enter Try.func4, Try.ntmps4
      go_wp2_with fail
      refine (anchor_any _).mono ?_
      rintro e w1 ⟨rfl, hb1⟩
      go_wp2_with fail
      go_ret
      exact ⟨rfl, hb1⟩
  · go_enter Try.func4, Try.ntmps4
    go_wp2_with fail
    refine (anchor_any _).mono ?_
    rintro e w1 ⟨rfl, hb1⟩
    go_wp2_with fail
    go_ret
    exact ⟨rfl, hb1⟩
end Go.Proofs.Ytjnknckbdfgjlaa
