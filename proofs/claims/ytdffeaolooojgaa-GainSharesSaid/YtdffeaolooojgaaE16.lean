/-
  Signed, Saved, below: plain and walked.
-/
import Derived.Test.YtdffeaolooojgaaE15
namespace Go.Proofs.Ytdffeaolooojgaa
open Go.RowKit

def csign (x s : Nat) : Nat := rung x + if sgn s then TOP else 0
def negN (x : Nat) : Nat := rung x + if sgn x then 0 else TOP
theorem rung_lt (x : Nat) : rung x < TOP := Nat.mod_lt _ (by decide)
theorem rung_of {r : Nat} (b : Bool) (h : r < TOP) : rung (r + if b then TOP else 0) = r ∧ sgn (r + if b then TOP else 0) = b := by
  unfold rung sgn
  have ht : 0 < TOP := by decide
  cases b
  · simp only [Bool.false_eq_true, if_false, Nat.add_zero]
    rw [Nat.mod_eq_of_lt h, Nat.div_eq_of_lt h]
    exact ⟨rfl, rfl⟩
  · simp only [if_true]
    rw [Nat.add_mod_right, Nat.mod_eq_of_lt h, Nat.add_div_right _ ht, Nat.div_eq_of_lt h]
    exact ⟨rfl, rfl⟩
theorem csign_lt (x s : Nat) : csign x s < 18446744073709551616 := by
  have := rung_lt x
  unfold csign
  unfold TOP at *
  split <;> omega
theorem csign_rung (x s : Nat) : rung (csign x s) = rung x := (rung_of (sgn s) (rung_lt x)).1
theorem csign_sgn (x s : Nat) : sgn (csign x s) = sgn s := (rung_of (sgn s) (rung_lt x)).2
theorem csign_isn (x s : Nat) : isn (csign x s) = isn x := by unfold isn; rw [csign_rung]
theorem csign_same {x s : Nat} (hx : x < 18446744073709551616) (h : sgn s = sgn x) : csign x s = x := by
  have := (word_of hx).1
  unfold csign
  rw [h]
  omega
theorem csign_other {x s : Nat} (h : ¬ sgn s = sgn x) : csign x s = negN x := by
  unfold csign negN
  cases h1 : sgn s <;> cases h2 : sgn x <;> simp_all
theorem neg_eq {x : Nat} (hx : x < 18446744073709551616) : Op.negFloat .f64 x = negN x := by
  show x ^^^ 2 ^ 63 = negN x
  obtain ⟨h1, h2⟩ := word_of hx
  obtain ⟨r, hr⟩ : ∃ r, r = rung x := ⟨_, rfl⟩
  unfold negN
  rw [← hr] at h1 h2 ⊢
  have h63 : r < 2 ^ 63 := by unfold TOP at h2; exact h2
  have hor : TOP + r = 2 ^ 63 ||| r := by
    have := Nat.two_pow_add_eq_or_of_lt (i := 63) h63 1
    rw [Nat.mul_one] at this
    rw [← this]; rfl
  have hb : r.testBit 63 = false := Nat.testBit_lt_two_pow h63
  cases hs : sgn x
  · rw [hs] at h1
    simp only [Bool.false_eq_true, if_false, Nat.zero_add] at h1 ⊢
    rw [h1, Nat.add_comm, hor]
    apply Nat.eq_of_testBit_eq
    intro i
    rw [Nat.testBit_xor, Nat.testBit_or, Nat.testBit_two_pow]
    by_cases hi : 63 = i
    · subst hi; rw [hb]; simp
    · rw [decide_eq_false hi]; simp
  · rw [hs] at h1
    simp only [if_true] at h1 ⊢
    rw [h1, Nat.add_zero, hor]
    apply Nat.eq_of_testBit_eq
    intro i
    rw [Nat.testBit_xor, Nat.testBit_or, Nat.testBit_two_pow]
    by_cases hi : 63 = i
    · subst hi; rw [hb]; simp
    · rw [decide_eq_false hi]; simp
theorem below_cls {x : Nat} (h : isn x = false) : clsN x ≤ 2 ↔ sgn x = true := by
  unfold clsN
  rw [h]
  cases sgn x <;> simp only [Bool.false_eq_true, if_false, if_true] <;> (repeat' split) <;> simp

theorem unary_negf {x : Nat} (hx : x < 18446744073709551616) : Op.unary .neg (.float .f64 x) = pure (.float .f64 (negN x)) := by
  rw [← neg_eq hx]; rfl
theorem bits_andnot (x : Nat) (h : x < 18446744073709551616) : bits BinOp.andNot .u64 (x : Int) 9223372036854775808 = ((rung x : Nat) : Int) := by
  obtain ⟨h1, h2⟩ := word_of h
  have e1 : (BitVec.ofInt 64 (x : Int)).toNat = x := by rw [BitVec.toNat_ofInt]; omega
  have e : (BitVec.ofInt 64 (x : Int) &&& ~~~ BitVec.ofInt 64 (9223372036854775808 : Int)).toNat = rung x := by
    have e2 : (~~~ BitVec.ofInt 64 (9223372036854775808 : Int)).toNat = 2 ^ 63 - 1 := by decide
    rw [BitVec.toNat_and, e1, e2, Nat.and_two_pow_sub_one_eq_mod]
    rfl
  show IntKind.u64.wrap (((BitVec.ofInt 64 (x : Int) &&& ~~~ BitVec.ofInt 64 (9223372036854775808 : Int)).toNat : Nat) : Int) = _
  rw [e]
  unfold IntKind.wrap
  unfold TOP at h2
  simp [IntKind.bits, IntKind.signed]
  omega

set_option maxHeartbeats 400000 in
theorem copysign_any (x s : Nat) (hx : x < 18446744073709551616) (hs : s < 18446744073709551616) (w : World) : Calls Try.prog 34 #[.float .f64 x, .float .f64 s] w fun e w' => e = .returned (.float .f64 (csign x s)) ∧ w' = w := by
  have b1 := bits_andnot x hx
  have b2 := bits_top s hs
  have hr := rung_lt x
  obtain ⟨r, hrr⟩ : ∃ r, r = rung x := ⟨_, rfl⟩
  have hv : csign x s = r + if sgn s then TOP else 0 := by rw [hrr]; rfl
  rw [← hrr] at b1 hr
  unfold TOP at hr
  cases hsg : sgn s
  · rw [hsg] at b2 hv
    simp only [Bool.false_eq_true, if_false, Nat.add_zero] at b2 hv
    have b3 : bits BinOp.or .u64 (r : Int) 0 = (r : Int) := by
      show IntKind.u64.wrap (((BitVec.ofInt 64 (r : Int) ||| BitVec.ofInt 64 (0 : Int)).toNat : Nat) : Int) = _
      have : (BitVec.ofInt 64 (r : Int) ||| BitVec.ofInt 64 (0 : Int)).toNat = r := by
        rw [BitVec.toNat_or, BitVec.toNat_ofInt, BitVec.toNat_ofInt]
        simp
        omega
      rw [this]
      unfold IntKind.wrap
      simp [IntKind.bits, IntKind.signed]
      omega
    rw [hv]
    clear hv hsg hrr hx hs
    go_enter Try.func34, Try.ntmps34
    go_wp2
    go_ret
    exact ⟨rfl, rfl⟩
  · rw [hsg] at b2 hv
    simp only [if_true] at b2 hv
    have b3 := bits_ortop r hr
    obtain ⟨R, hR⟩ : ∃ R, R = r + TOP := ⟨_, rfl⟩
    rw [← hR] at b3 hv
    rw [hv]
    clear hR
    clear hv hsg hrr hx hs
    go_enter Try.func34, Try.ntmps34
    go_wp2
    go_ret
    exact ⟨rfl, rfl⟩

theorem signed_any (x s : Nat) (hx : x < 18446744073709551616) (hs : s < 18446744073709551616) (w : World) : Calls Try.prog 22 #[.float .f64 x, .float .f64 s] w fun e w' => e = .returned (.float .f64 (csign x s)) ∧ w' = w := by
  have C := Lib.hid (copysign_any x s hx hs)
  clear hx hs
  go_enter Try.func22, Try.ntmps22
  go_wp2_with fail
  refine (C.out _).mono ?_
  rintro e w1 ⟨rfl, rfl⟩
  go_wp2
  go_ret
  exact ⟨rfl, rfl⟩

theorem below_any (x : Nat) (h : isn x = false) (w : World) : Calls Try.prog 23 #[.float .f64 x] w fun e w' => e = .returned (.bool (sgn x)) ∧ w' = w := by
  have C := Lib.hid (fun W => Class_any x W)
  have hb := below_cls h
  obtain ⟨c, hc⟩ : ∃ c, clsN x = c := ⟨_, rfl⟩
  rw [hc] at C hb
  have HB := Lib.hid hb
  clear h hc hb
  go_enter Try.func23, Try.ntmps23
  go_wp2_with fail
  refine (C.out _).mono ?_
  rintro e w1 ⟨rfl, rfl⟩
  go_wp2
  go_ret
  refine ⟨ret_bool ?_, rfl⟩
  have := HB.out
  rw [Bool.eq_iff_iff, decide_eq_true_iff, ← this]
  omega

set_option maxHeartbeats 400000 in
theorem saved_any (a b : Int) (w : World) (ha : 0 ≤ a ∧ a ≤ 1099511627776) (hb : 0 ≤ b ∧ b ≤ 1099511627776) :
    Calls Try.prog 24 #[.int .i64 a, .int .i64 b] w fun e w' => (∃ r, e = .returned (.float .f64 r) ∧ ((a = 0 ∧ b = 0 ∧ r = TOP) ∨ (¬ (a = 0 ∧ b = 0) ∧ QU (FI (a - b)) (FI a) r))) ∧ Below w.heap.size w w' := by
  by_cases h0 : a = 0 ∧ b = 0
  · obtain ⟨rfl, rfl⟩ := h0
    have C := Lib.hid (signed_any 0 13830554455654793216 (by decide) (by decide))
    have hc : csign 0 13830554455654793216 = TOP := by decide
    rw [hc] at C
    clear hc ha hb
    go_enter Try.func24, Try.ntmps24
    go_wp2_with fail
    refine (C.out _).mono ?_
    rintro e w1 ⟨rfl, rfl⟩
    go_wp2_with fail
    go_ret
    exact ⟨⟨_, rfl, .inl ⟨by first | rfl | trivial, by first | rfl | trivial, rfl⟩⟩, Below.refl _ _⟩
  · have H0 := Lib.hid h0
    have C := Lib.hid (share_any (a - b) a)
    by_cases ha0 : a = 0
    · have hb0 : (b == 0) = false := by rw [beq_eq_false_iff_ne]; intro e; exact h0 ⟨ha0, e⟩
      have ha1 : (a == 0) = true := by rw [beq_iff_eq]; exact ha0
      clear h0 ha0
      go_enter Try.func24, Try.ntmps24
      go_wp2_with fail
      refine (C.out _).mono ?_
      rintro e w1 ⟨⟨r, rfl, hq⟩, hb1⟩
      have HQ := Lib.hid hq
      have HB := Lib.hid hb1
      clear hq hb1
      go_wp2_with fail
      go_ret
      exact ⟨⟨_, rfl, .inr ⟨H0.out, HQ.out⟩⟩, HB.out⟩
    · have ha1 : (a == 0) = false := by rw [beq_eq_false_iff_ne]; exact ha0
      clear h0 ha0
      go_enter Try.func24, Try.ntmps24
      go_wp2_with fail
      refine (C.out _).mono ?_
      rintro e w1 ⟨⟨r, rfl, hq⟩, hb1⟩
      have HQ := Lib.hid hq
      have HB := Lib.hid hb1
      clear hq hb1
      go_wp2_with fail
      go_ret
      exact ⟨⟨_, rfl, .inr ⟨H0.out, HQ.out⟩⟩, HB.out⟩
end Go.Proofs.Ytdffeaolooojgaa
