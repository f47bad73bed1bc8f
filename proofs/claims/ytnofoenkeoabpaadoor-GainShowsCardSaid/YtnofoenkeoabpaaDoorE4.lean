/-
  Less, class and the document's Less, Same: the walks.
-/
import Derived.Test.YtnofoenkeoabpaaDoorE3
namespace Go.Proofs.YtnofoenkeoabpaaDoor
open Go.RowKit

theorem less_any (a b : Nat) (ha : a < 18446744073709551616) (hb : b < 18446744073709551616) (w : World) : Calls Tryd.prog 24 #[.float .f64 a, .float .f64 b] w fun e w' => e = .returned (.bool (lessN a b)) ∧ w' = w := by
  obtain ⟨A, hA⟩ : ∃ A, A = rankN a := ⟨_, rfl⟩
  obtain ⟨B, hB⟩ : ∃ B, B = rankN b := ⟨_, rfl⟩
  have C1 := Lib.hid (rank_any a ha)
  have C2 := Lib.hid (rank_any b hb)
  rw [← hA] at C1
  rw [← hB] at C2
  unfold lessN
  rw [← hA, ← hB]
  clear hA hB ha hb
  go_enter Tryd.func24, Tryd.ntmps24
  go_wp2_with fail
  refine (C1.out _).mono ?_
  rintro e w1 ⟨rfl, rfl⟩
  go_wp2_with fail
  refine (C2.out _).mono ?_
  rintro e w2 ⟨rfl, rfl⟩
  go_wp2
  go_ret
  exact ⟨rfl, rfl⟩

/-- One over a nought. -/
theorem one_over {x : Nat} (h : rung x = 0) : floatBits .quo .f64 ONE x = some (if sgn x then NINF else PINF) := by
  obtain ⟨m, k, h1, _, h0⟩ := read_fin (x := x) (by rw [h]; decide)
  have hm := h0 h
  subst hm
  show (((F64.read ONE).quotient (F64.fractionBits + 2) (F64.read x)).map F64.write) = _
  rw [h1]
  cases sgn x <;> kernel_rfl
@[go_sem] theorem run_quo64 (t : TypeId) (x y r : Nat) (w : World) (h : floatBits .quo .f64 x y = some r) : (binOp .quo t (.float .f64 x) (.float .f64 y)).run Tryd.prog w = .ok (.float .f64 r) w := run_float_arith w .quo t .f64 x y r h

theorem class_any (x : Nat) (w : World) : Calls Tryd.prog 9 #[.float .f64 x] w fun e w' => e = .returned (.int .i64 (clsN x : Nat)) ∧ w' = w := by
  obtain ⟨R, hR⟩ : ∃ R, R = clsN x := ⟨_, rfl⟩
  rw [← hR]
  unfold clsN at hR
  cases hn : isn x with
  | true =>
    have o := order_nan1 x hn
    rw [hn] at hR
    simp only [if_true] at hR
    subst hR
    clear hn
    go_enter Tryd.func9, Tryd.ntmps9
    go_wp2
    go_ret
    exact ⟨rfl, rfl⟩
  | false =>
    have o := ord_eq hn hn rfl
    rw [hn] at hR
    simp only [Bool.false_eq_true, if_false] at hR
    by_cases h0 : rung x = 0
    · have o1 : F64.order x 0 = some .eq := ord_eq hn isn_0 (by rw [ordI_0]; unfold ordI; rw [h0]; split <;> rfl)
      have oq := one_over h0
      rw [if_pos h0] at hR
      cases hs : sgn x with
      | true =>
        rw [hs] at hR oq
        simp only [if_true] at hR oq
        have o2 : F64.order NINF 0 = some .lt := ord_lt isn_ninf isn_0 (by decide)
        have q0 := fun w => run_quo64 22 ONE x NINF w oq
        unfold ONE NINF at q0
        unfold NINF at o2
        subst hR
        clear hn h0 hs oq
        go_enter Tryd.func9, Tryd.ntmps9
        go_wp2
        go_ret
        exact ⟨rfl, rfl⟩
      | false =>
        rw [hs] at hR oq
        simp only [Bool.false_eq_true, if_false] at hR oq
        have o2 : F64.order PINF 0 = some .gt := ord_gt isn_pinf isn_0 (by decide)
        have q0 := fun w => run_quo64 22 ONE x PINF w oq
        unfold ONE PINF at q0
        unfold PINF at o2
        subst hR
        clear hn h0 hs oq
        go_enter Tryd.func9, Tryd.ntmps9
        go_wp2
        go_ret
        exact ⟨rfl, rfl⟩
    · rw [if_neg h0] at hR
      have hle := isn_le hn
      unfold INFR at hle
      cases hs : sgn x with
      | true =>
        have hox : ordI x = -(rung x : Int) := by unfold ordI; rw [hs]; rfl
        have o1 : F64.order x 0 = some .lt := ord_lt hn isn_0 (by rw [ordI_0, hox]; omega)
        rw [hs] at hR
        simp only [if_true] at hR
        unfold INFR at hR
        by_cases hi : rung x = 9218868437227405312
        · have o2 : F64.order x MINF = some .lt := ord_lt hn isn_min (by rw [ordI_min, hox]; omega)
          unfold MINF at o2
          rw [if_pos hi] at hR
          subst hR
          clear hn h0 hs hox hi hle
          go_enter Tryd.func9, Tryd.ntmps9
          go_wp2
          go_ret
          exact ⟨rfl, rfl⟩
        · rw [if_neg hi] at hR
          subst hR
          by_cases hm : rung x = 9218868437227405311
          · have o2 : F64.order x MINF = some .eq := ord_eq hn isn_min (by rw [ordI_min, hox]; omega)
            unfold MINF at o2
            clear hn h0 hs hox hi hle hm
            go_enter Tryd.func9, Tryd.ntmps9
            go_wp2
            go_ret
            exact ⟨rfl, rfl⟩
          · have o2 : F64.order x MINF = some .gt := ord_gt hn isn_min (by rw [ordI_min, hox]; omega)
            unfold MINF at o2
            clear hn h0 hs hox hi hle hm
            go_enter Tryd.func9, Tryd.ntmps9
            go_wp2
            go_ret
            exact ⟨rfl, rfl⟩
      | false =>
        have hox : ordI x = (rung x : Int) := by unfold ordI; rw [hs]; rfl
        have o1 : F64.order x 0 = some .gt := ord_gt hn isn_0 (by rw [ordI_0, hox]; omega)
        rw [hs] at hR
        simp only [Bool.false_eq_true, if_false] at hR
        unfold INFR at hR
        by_cases hi : rung x = 9218868437227405312
        · have o2 : F64.order x MAXF = some .gt := ord_gt hn isn_max (by rw [ordI_max, hox]; omega)
          unfold MAXF at o2
          rw [if_pos hi] at hR
          subst hR
          clear hn h0 hs hox hi hle
          go_enter Tryd.func9, Tryd.ntmps9
          go_wp2
          go_ret
          exact ⟨rfl, rfl⟩
        · rw [if_neg hi] at hR
          subst hR
          by_cases hm : rung x = 9218868437227405311
          · have o2 : F64.order x MAXF = some .eq := ord_eq hn isn_max (by rw [ordI_max, hox]; omega)
            unfold MAXF at o2
            clear hn h0 hs hox hi hle hm
            go_enter Tryd.func9, Tryd.ntmps9
            go_wp2
            go_ret
            exact ⟨rfl, rfl⟩
          · have o2 : F64.order x MAXF = some .lt := ord_lt hn isn_max (by rw [ordI_max, hox]; omega)
            unfold MAXF at o2
            clear hn h0 hs hox hi hle hm
            go_enter Tryd.func9, Tryd.ntmps9
            go_wp2
            go_ret
            exact ⟨rfl, rfl⟩

theorem Class_any (x : Nat) (w : World) : Calls Tryd.prog 5 #[.float .f64 x] w fun e w' => e = .returned (.int .i64 (clsN x : Nat)) ∧ w' = w := by
  have C := Lib.hid (class_any x)
  go_enter Tryd.func5, Tryd.ntmps5
  go_wp2_with fail
  refine (C.out _).mono ?_
  rintro e w1 ⟨rfl, rfl⟩
  go_wp2
  go_ret
  exact ⟨rfl, rfl⟩

end Go.Proofs.YtnofoenkeoabpaaDoor
