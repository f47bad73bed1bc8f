/-
  rank, Less, class and the document's Less, Same: the walks.
-/
import Derived.Test.YtnofoenkeoabpaaDoorE2
import Derived.Laws.Externs
namespace Go.Proofs.YtnofoenkeoabpaaDoor
open Go.RowKit

@[go_sem] theorem run_f64bits (b : Nat) (w : World) : (callFunc 26 #[.float .f64 b]).run Tryd.prog w = .ok (.value (.int .u64 b)) w := by
  rw [run_callFunc_extern (e := Extern.MathFloatBits.float64bits) Tryd.func26 (by kernel_rfl) (by kernel_rfl) (by kernel_rfl) (by kernel_rfl)]; rfl
@[go_sem] theorem run_f64from (b : Nat) (w : World) : (callFunc 25 #[.int .u64 (b : Int)]).run Tryd.prog w = .ok (.value (.float .f64 b)) w := by
  rw [run_callFunc_extern (e := Extern.MathFloatBits.float64frombits) Tryd.func25 (by kernel_rfl) (by kernel_rfl) (by kernel_rfl) (by kernel_rfl)]; rfl

theorem ord_lt {x y : Nat} (hx : isn x = false) (hy : isn y = false) (h : ordI x < ordI y) : F64.order x y = some .lt := by
  have := lt64_eq hx hy
  rw [decide_eq_true h] at this
  unfold lt64 at this
  simpa using this
theorem ord_eq {x y : Nat} (hx : isn x = false) (hy : isn y = false) (h : ordI x = ordI y) : F64.order x y = some .eq := by
  have := eq64_eq hx hy
  rw [decide_eq_true h] at this
  unfold eq64 at this
  simpa using this
theorem ord_gt {x y : Nat} (hx : isn x = false) (hy : isn y = false) (h : ordI y < ordI x) : F64.order x y = some .gt := by
  have := gt64_eq hx hy
  rw [decide_eq_true h] at this
  unfold gt64 at this
  simpa using this

def ONE : Nat := 4607182418800017408
def MAXF : Nat := 9218868437227405311
def MINF : Nat := 18442240474082181119
def PINF : Nat := 9218868437227405312
def NINF : Nat := 18442240474082181120
theorem isn_0 : isn 0 = false := by decide
theorem isn_max : isn MAXF = false := by decide
theorem isn_min : isn MINF = false := by decide
theorem isn_pinf : isn PINF = false := by decide
theorem isn_ninf : isn NINF = false := by decide
theorem ordI_0 : ordI 0 = 0 := by decide
theorem ordI_max : ordI MAXF = 9218868437227405311 := by decide
theorem ordI_min : ordI MINF = -9218868437227405311 := by decide

theorem isNaN_any (x : Nat) (w : World) : Calls Tryd.prog 10 #[.float .f64 x] w fun e w' => e = .returned (.bool (isn x)) ∧ w' = w := by
  cases h : isn x with
  | true =>
    have o := order_nan1 x h
    clear h
    go_enter Tryd.func10, Tryd.ntmps10
    go_wp2
    go_ret
    exact ⟨rfl, rfl⟩
  | false =>
    have o := ord_eq h h rfl
    clear h
    go_enter Tryd.func10, Tryd.ntmps10
    go_wp2
    go_ret
    exact ⟨rfl, rfl⟩

theorem bits_top (x : Nat) (h : x < 18446744073709551616) : bits BinOp.and .u64 (x : Int) 9223372036854775808 = if sgn x then 9223372036854775808 else 0 := by
  obtain ⟨h1, h2⟩ := word_of h
  have e1 : (BitVec.ofInt 64 (x : Int)).toNat = x := by rw [BitVec.toNat_ofInt]; omega
  have e2 : (BitVec.ofInt 64 (9223372036854775808 : Int)).toNat = 2 ^ 63 := by decide
  have e : (BitVec.ofInt 64 (x : Int) &&& BitVec.ofInt 64 (9223372036854775808 : Int)).toNat = if sgn x then 2 ^ 63 else 0 := by
    have ht : x.testBit 63 = sgn x := by
      rw [Nat.testBit_eq_decide_div_mod_eq]
      unfold sgn TOP
      rw [Bool.eq_iff_iff]
      simp
    rw [BitVec.toNat_and, e1, e2]
    apply Nat.eq_of_testBit_eq
    intro i
    rw [Nat.testBit_and, Nat.testBit_two_pow]
    by_cases hi : 63 = i
    · subst hi
      rw [ht]
      cases sgn x
      · simp
      · simp only [if_true, Nat.testBit_two_pow]; simp
    · rw [decide_eq_false hi, Bool.and_false]
      cases sgn x
      · simp
      · simp only [if_true, Nat.testBit_two_pow]; simp [hi]
  show IntKind.u64.wrap (((BitVec.ofInt 64 (x : Int) &&& BitVec.ofInt 64 (9223372036854775808 : Int)).toNat : Nat) : Int) = _
  rw [e]
  cases sgn x <;> rfl
theorem bits_ortop (x : Nat) (h : x < 9223372036854775808) : bits BinOp.or .u64 (x : Int) 9223372036854775808 = ((x + TOP : Nat) : Int) := by
  have e1 : (BitVec.ofInt 64 (x : Int)).toNat = x := by rw [BitVec.toNat_ofInt]; omega
  have e2 : (BitVec.ofInt 64 (9223372036854775808 : Int)).toNat = 2 ^ 63 := by decide
  have e : (BitVec.ofInt 64 (x : Int) ||| BitVec.ofInt 64 (9223372036854775808 : Int)).toNat = x + TOP := by
    rw [BitVec.toNat_or, e1, e2, Nat.or_comm]
    have := Nat.two_pow_add_eq_or_of_lt (i := 63) h 1
    rw [Nat.mul_one] at this
    rw [← this]
    unfold TOP
    omega
  show IntKind.u64.wrap (((BitVec.ofInt 64 (x : Int) ||| BitVec.ofInt 64 (9223372036854775808 : Int)).toNat : Nat) : Int) = _
  rw [e]
  unfold IntKind.wrap TOP
  simp [IntKind.bits, IntKind.signed]
  omega

theorem bits_xormax (x : Nat) (h : x < 18446744073709551616) {R : Nat} (hR : R = 18446744073709551615 - x) : bits BinOp.xor .u64 IntKind.u64.max (x : Int) = (R : Int) := by
  have e : (BitVec.ofInt 64 (IntKind.u64.max) ^^^ BitVec.ofInt 64 (x : Int)).toNat = R := by
    rw [show BitVec.ofInt 64 (IntKind.u64.max) = BitVec.allOnes 64 by decide, BitVec.allOnes_xor, BitVec.toNat_not, BitVec.toNat_ofInt, hR]
    omega
  show IntKind.u64.wrap (((BitVec.ofInt 64 (IntKind.u64.max) ^^^ BitVec.ofInt 64 (x : Int)).toNat : Nat) : Int) = _
  rw [e]
  unfold IntKind.wrap
  simp [IntKind.bits, IntKind.signed]
  omega

theorem rank_any (x : Nat) (hx : x < 18446744073709551616) (w : World) : Calls Tryd.prog 30 #[.float .f64 x] w fun e w' => e = .returned (.int .u64 (rankN x : Nat)) ∧ w' = w := by
  obtain ⟨R, hR⟩ : ∃ R, R = rankN x := ⟨_, rfl⟩
  rw [← hR]
  have C := Lib.hid (isNaN_any x)
  unfold rankN at hR
  cases hn : isn x with
  | true =>
    rw [hn] at hR C
    simp only [if_true] at hR
    subst hR
    clear hn hx
    go_enter Tryd.func30, Tryd.ntmps30
    go_wp2_with (go_at_call 10; refine (C.out _).mono ?_; rintro e w' ⟨rfl, rfl⟩)
    go_ret
    exact ⟨rfl, rfl⟩
  | false =>
    rw [hn] at hR C
    simp only [Bool.false_eq_true, if_false] at hR
    have hb := bits_top x hx
    obtain ⟨h1, h2⟩ := word_of hx
    cases hs : sgn x with
    | true =>
      rw [hs] at hR hb
      simp only [if_true] at hR hb
      have hxr := bits_xormax x hx hR
      clear hn hs h1 h2 hR
      go_enter Tryd.func30, Tryd.ntmps30
      go_wp2_with (go_at_call 10; refine (C.out _).mono ?_; rintro e w' ⟨rfl, rfl⟩)
      go_ret
      exact ⟨rfl, rfl⟩
    | false =>
      rw [hs] at hR hb h1
      simp only [Bool.false_eq_true, if_false] at hR hb h1
      have hlt : x < 9223372036854775808 := by rw [h1]; unfold TOP at h2; omega
      have ho := bits_ortop x hlt
      rw [← hR] at ho
      clear hn hs h1 h2 hR hlt
      go_enter Tryd.func30, Tryd.ntmps30
      go_wp2_with (go_at_call 10; refine (C.out _).mono ?_; rintro e w' ⟨rfl, rfl⟩)
      go_ret
      exact ⟨rfl, rfl⟩
end Go.Proofs.YtnofoenkeoabpaaDoor
