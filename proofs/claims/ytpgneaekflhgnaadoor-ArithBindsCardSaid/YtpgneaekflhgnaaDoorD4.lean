/-
  The walk of the document's Do.
-/
import Derived.Test.YtpgneaekflhgnaaDoorA3
namespace Go.Proofs.YtpgneaekflhgnaaDoor
open Go.RowKit

def doV (x : Option Int) : Value := match x with
  | some v => .tuple #[.int .i64 v, .int .i64 0]
  | none => .tuple #[.int .i64 0, .int .i64 32]
theorem rtruth_any (b : Bool) (w : World) : Calls Tryd.prog 25 #[.bool b] w fun e w' => e = .returned (.int .i64 (truI b)) ∧ w = w' := by
  cases b
  · go_enter Tryd.func25, Tryd.ntmps25
    go_wp2
    go_ret
    exact ⟨rfl, rfl⟩
  · go_enter Tryd.func25, Tryd.ntmps25
    go_wp2
    go_ret
    exact ⟨rfl, rfl⟩
theorem tmod_one (a : Int) : a.tmod (-1) = 0 := by
  rw [Int.tmod_neg, Int.tmod_one]
set_option maxHeartbeats 2000000 in
theorem rdo_flat {o : Nat} (h : o = 2 ∨ o = 3 ∨ o = 4 ∨ o = 13 ∨ o = 14 ∨ o = 15) (a b : Int) (w : World) : Calls Tryd.prog 22 #[.string (S (opB o)), .int .i64 a, .int .i64 b] w fun e w' => e = .returned (doV (apO o a b)) ∧ w = w' := by
  obtain rfl | rfl | rfl | rfl | rfl | rfl := h
  all_goals
    simp only [sB2, sB3, sB4, sB13, sB14, sB15]
    go_enter Tryd.func22, Tryd.ntmps22
    go_wp2
    go_ret2
    exact ⟨rfl, rfl⟩
set_option maxHeartbeats 2000000 in
theorem rdo_cmp {o : Nat} (h : 5 ≤ o ∧ o ≤ 10) (a b : Int) (w : World) : Calls Tryd.prog 22 #[.string (S (opB o)), .int .i64 a, .int .i64 b] w fun e w' => e = .returned (doV (apO o a b)) ∧ w = w' := by
  obtain rfl | rfl | rfl | rfl | rfl | rfl : o = 5 ∨ o = 6 ∨ o = 7 ∨ o = 8 ∨ o = 9 ∨ o = 10 := by omega
  all_goals
    clear h
    simp only [sB5, sB6, sB7, sB8, sB9, sB10]
    go_enter Tryd.func22, Tryd.ntmps22
    go_wp2_with fail
    refine (rtruth_any _ _).mono ?_
    rintro e w' ⟨rfl, rfl⟩
    go_wp2_with fail
    go_ret2
    exact ⟨by first | rfl | simp [doV, apO], rfl⟩
set_option maxHeartbeats 2000000 in
set_option maxRecDepth 100000 in
theorem rdo_div {o : Nat} (h : o = 16 ∨ o = 17) (a b : Int) (ha : inI a) (w : World) : Calls Tryd.prog 22 #[.string (S (opB o)), .int .i64 a, .int .i64 b] w fun e w' => e = .returned (doV (apO o a b)) ∧ w = w' := by
  obtain rfl | rfl := h
  all_goals
    simp only [sB16, sB17]
    by_cases hb : b = 0
    · subst hb
      clear ha
      go_enter Tryd.func22, Tryd.ntmps22
      go_wp2
      go_ret2
      exact ⟨rfl, rfl⟩
    · by_cases hb1 : b = -1
      · have HB := Lib.hid hb1
        have e0 : (b == 0) = false := by rw [beq_eq_false_iff_ne]; exact hb
        have e1 : (b == -1) = true := by rw [hb1]; rfl
        clear ha hb hb1
        go_enter Tryd.func22, Tryd.ntmps22
        go_wp2
        go_ret2
        exact ⟨by rw [HB.out]; first | (simp [doV, apO, neg_one_quo]; done) | (simp [doV, apO, tmod_one]; done), rfl⟩
      · have HB := Lib.hid (And.intro ha (And.intro hb hb1))
        have e0 : (b == 0) = false := by rw [beq_eq_false_iff_ne]; exact hb
        have e1 : (b == -1) = false := by rw [beq_eq_false_iff_ne]; exact hb1
        clear ha
        go_enter Tryd.func22, Tryd.ntmps22
        go_wp2
        go_ret2
        exact ⟨by first | (simp [doV, apO, HB.out.2.1]; done) | (simp [doV, apO, HB.out.2.1, rem_eq HB.out.1 HB.out.2.1 HB.out.2.2]; done), rfl⟩
set_option maxHeartbeats 2000000 in
theorem rdo_shl (a b : Int) (ha : inI a) (w : World) : Calls Tryd.prog 22 #[.string (S (opB 11)), .int .i64 a, .int .i64 b] w fun e w' => e = .returned (doV (apO 11 a b)) ∧ w = w' := by
  obtain ⟨n, hn⟩ : ∃ n, n = (b % 64).toNat := ⟨_, rfl⟩
  have hb : b % 64 = (n : Int) := by omega
  have hn64 : n < 64 := by omega
  have HE : Hid (apO 11 a b = some (dblN a n)) := Lib.hid (by rw [dblN_eq ha, hn]; rfl)
  rw [HE.out]
  clear hn ha
  simp only [sB11]
  go_enter Tryd.func22, Tryd.ntmps22
  go_wp2_with fail
  go_loop [1, 9] (fun x i => ∃ (k : Nat) (y : Int), k ≤ n ∧ i = .int .i64 k ∧ x = .int .i64 y ∧ Hid (y = dblN a k)) (fun _ i => n - (intOf i).toNat)
  case atStart => exact ⟨0, a, Nat.zero_le _, rfl, rfl, rfl⟩
  case round =>
    obtain ⟨k, y, hk, rfl, rfl, hy⟩ := hrel
    by_cases hlt : k < n
    · have HN : Hid (wrap64 (y + y) = dblN a (k + 1)) := Lib.hid (by rw [hy.out]; rfl)
      go_wp2_with fail
      refine ⟨⟨k + 1, _, by omega, by go_num, rfl, HN⟩, by simp [intOf]; omega⟩
    · obtain rfl : k = n := by omega
      go_wp2_with fail
      go_ret2
      exact ⟨by rw [← hy.out]; rfl, rfl⟩
set_option maxHeartbeats 2000000 in
theorem rdo_shr (a b : Int) (ha : inI a) (w : World) : Calls Tryd.prog 22 #[.string (S (opB 12)), .int .i64 a, .int .i64 b] w fun e w' => e = .returned (doV (apO 12 a b)) ∧ w = w' := by
  obtain ⟨n, hn⟩ : ∃ n, n = (b % 64).toNat := ⟨_, rfl⟩
  have hb : b % 64 = (n : Int) := by omega
  have hn64 : n < 64 := by omega
  have HE : Hid (apO 12 a b = some (halN a n)) := Lib.hid (by rw [halN_eq, hn]; rfl)
  have HIN : Hid (∀ k, inI (halN a k)) := Lib.hid (halN_in ha)
  rw [HE.out]
  clear hn ha
  simp only [sB12]
  go_enter Tryd.func22, Tryd.ntmps22
  go_wp2_with fail
  go_loop [1, 10] (fun x i => ∃ (k : Nat) (y : Int), k ≤ n ∧ i = .int .i64 k ∧ x = .int .i64 y ∧ Hid (y = halN a k)) (fun _ i => n - (intOf i).toNat)
  case atStart => exact ⟨0, a, Nat.zero_le _, rfl, rfl, rfl⟩
  case round =>
    obtain ⟨k, y, hk, rfl, rfl, hy⟩ := hrel
    obtain ⟨i0, i1⟩ : inI y := by rw [hy.out]; exact HIN.out k
    by_cases hlt : k < n
    · have hN : hal y = halN a (k + 1) := by rw [hy.out]; rfl
      rw [hal_eq] at hN
      by_cases hneg : y < 0
      · obtain ⟨u, hu⟩ : ∃ u, u = -(y + 1) := ⟨_, rfl⟩
        have u0 : 0 ≤ u := by omega
        have u1 : u < 9223372036854775808 := by omega
        have q1 : IntKind.i64.wrap (y + 1) = y + 1 := IntWalk.i64_in _ ⟨by omega, by omega⟩
        have q2 : IntKind.i64.wrap (-(y + 1)) = u := by rw [← hu]; exact IntWalk.i64_in _ ⟨by omega, by omega⟩
        have hneg2 : (y < 0) = True := by simp [hneg]
        have HN : Hid (-(u.tdiv 2) - 1 = halN a (k + 1)) := Lib.hid (by rw [← hN, Int.tdiv_eq_ediv_of_nonneg u0]; omega)
        have HN2 : Hid (-(u / 2) - 1 = halN a (k + 1)) := Lib.hid (by rw [← hN]; omega)
        go_wp2_with fail
        have e : (y + 1).tdiv 2 = -(u / 2) := by rw [show y + 1 = -u by omega, Int.neg_tdiv, Int.tdiv_eq_ediv_of_nonneg u0]
        refine ⟨⟨k + 1, _, by omega, by go_num, rfl, Lib.hid ?_⟩, by simp [intOf]; omega⟩
        rw [e, ← HN2.out]
        simp only [wrap64]
        omega
      · have hneg2 : ¬ (y < 0) := hneg
        have y0 : 0 ≤ y := by omega
        have HN : Hid (y / 2 = halN a (k + 1)) := Lib.hid hN
        go_wp2_with fail
        exact ⟨⟨k + 1, _, by omega, by go_num, rfl, HN⟩, by simp [intOf]; omega⟩
    · obtain rfl : k = n := by omega
      go_wp2_with fail
      go_ret2
      exact ⟨by rw [← hy.out]; rfl, rfl⟩
theorem rdo_any {o : Nat} (h1 : 2 ≤ o) (h2 : o < 18) (a b : Int) (ha : inI a) (w : World) : Calls Tryd.prog 22 #[.string (S (opB o)), .int .i64 a, .int .i64 b] w fun e w' => e = .returned (doV (apO o a b)) ∧ w = w' := by
  by_cases hc : 5 ≤ o ∧ o ≤ 10
  · exact rdo_cmp hc a b w
  · by_cases hd : 16 ≤ o
    · exact rdo_div (by omega) a b ha w
    · by_cases h11 : o = 11
      · subst h11; exact rdo_shl a b ha w
      · by_cases h12 : o = 12
        · subst h12; exact rdo_shr a b ha w
        · exact rdo_flat (by omega) a b w
end Go.Proofs.YtpgneaekflhgnaaDoor
