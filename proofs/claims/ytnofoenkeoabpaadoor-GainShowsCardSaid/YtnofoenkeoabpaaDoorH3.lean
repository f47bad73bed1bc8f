/-
  Small functions of the digits' scaling: the walks.
-/
import Derived.Test.YtnofoenkeoabpaaDoorH2
import Derived.Test.YtnofoenkeoabpaaDoorShelf
import Derived.Deep.QuietTactic
import Derived.BigQuiet
namespace Go.Proofs.YtnofoenkeoabpaaDoor
open Go.RowKit

@[go_sem] theorem run_f64bits2 (b : Nat) (w : World) : (callFunc 32 #[.float .f64 b]).run Tryd.prog w = .ok (.value (.int .u64 b)) w := by
  rw [run_callFunc_extern (e := Extern.MathFloatBits.float64bits) Tryd.func32 (by kernel_rfl) (by kernel_rfl) (by kernel_rfl) (by kernel_rfl)]; rfl

theorem unmin_any (T : Nat) (h0 : 1 ≤ T) (h1 : T ≤ 1000000000000) (w : World) : Calls Tryd.prog 59 #[.int .u64 (T : Int)] w fun e w' => e = .returned (.int .u64 ((4 * T - 2 : Nat) : Int)) ∧ w' = w := by
  go_enter Tryd.func59, Tryd.ntmps59
  go_wp2
  go_ret
  exact ⟨ret_int (by omega), rfl⟩
theorem bits_and_1 (x : Int) : bits BinOp.and .u64 x 1 = x % 2 := bits_and_mask .u64 1 (by decide) x
theorem round_any (d : Nat) (h1 : d ≤ 1000000000000) (w : World) : Calls Tryd.prog 56 #[.int .u64 ((4 * d : Nat) : Int)] w fun e w' => e = .returned (.int .u64 (d : Int)) ∧ w' = w := by
  have hA := bits_and_1 (d : Int)
  go_enter Tryd.func56, Tryd.ntmps56
  go_wp2
  go_ret
  exact ⟨ret_int (by omega), rfl⟩
theorem l2p3_any (w : World) : Calls Tryd.prog 51 #[.int .i64 3] w fun e w' => e = .returned (.int .i64 9) ∧ w' = w := by
  go_enter Tryd.func51, Tryd.ntmps51
  go_wp2
  go_ret
  exact ⟨rfl, rfl⟩
theorem l2p4_any (w : World) : Calls Tryd.prog 51 #[.int .i64 4] w fun e w' => e = .returned (.int .i64 13) ∧ w' = w := by
  go_enter Tryd.func51, Tryd.ntmps51
  go_wp2
  go_ret
  exact ⟨rfl, rfl⟩
theorem l10neg_any (x : Int) (h : x = -1 ∨ x = -2 ∨ x = -3) (w : World) : Calls Tryd.prog 40 #[.int .i64 x] w fun e w' => e = .returned (.int .i64 (-1)) ∧ w' = w := by
  rcases h with rfl | rfl | rfl
  · go_enter Tryd.func40, Tryd.ntmps40
    go_wp2
    go_ret
    exact ⟨rfl, rfl⟩
  · go_enter Tryd.func40, Tryd.ntmps40
    go_wp2
    go_ret
    exact ⟨rfl, rfl⟩
  · go_enter Tryd.func40, Tryd.ntmps40
    go_wp2
    go_ret
    exact ⟨rfl, rfl⟩
theorem b2u_any (b : Bool) (w : World) : Calls Tryd.prog 70 #[.bool b] w fun e w' => e = .returned (.int .u64 (if b then 1 else 0)) ∧ w' = w := by
  cases b
  · go_enter Tryd.func70, Tryd.ntmps70
    go_wp2
    go_ret
    exact ⟨rfl, rfl⟩
  · go_enter Tryd.func70, Tryd.ntmps70
    go_wp2
    go_ret
    exact ⟨rfl, rfl⟩
theorem b2r_any (w : World) : Calls Tryd.prog 71 #[.bool false] w fun e w' => e = .returned (.int .u64 0) ∧ w' = w := by
  go_enter Tryd.func71, Tryd.ntmps71
  go_wp2
  go_ret
  exact ⟨rfl, rfl⟩
theorem bits_or_0 (x : Int) (h0 : 0 ≤ x) (h1 : x < 18446744073709551616) : bits BinOp.or .u64 x 0 = x := by
  obtain ⟨n, rfl⟩ := Int.eq_ofNat_of_zero_le h0
  have hn : n < 18446744073709551616 := by omega
  show IntKind.wrap .u64 ((Nat.lor ((n : Int) % 2 ^ 64).toNat ((0 : Int) % 2 ^ 64).toNat : Nat) : Int) = _
  have e1 : ((n : Int) % 2 ^ 64).toNat = n := by omega
  have e2 : ((0 : Int) % 2 ^ 64).toNat = 0 := by decide
  rw [e1, e2]
  have e3 : Nat.lor n 0 = n := Nat.or_zero n
  rw [e3]
  show (n : Int) % 2 ^ 64 = n
  omega
theorem div_any (v : Nat) (h2 : v % 2 = 0) (h1 : v ≤ 1000000000000) (w : World) : Calls Tryd.prog 60 #[.int .u64 ((10 * v : Nat) : Int), .int .u64 10] w fun e w' => e = .returned (.int .u64 (v : Int)) ∧ Below w.heap.size w w' := by
  have hA : bits BinOp.and .u64 ((10 * v : Nat) : Int) 1 = 0 := by rw [bits_and_1]; omega
  have hQ : ((10 * v : Nat) : Int) / 10 = (v : Int) := by omega
  have hR : ((10 * v : Nat) : Int) % 10 = 0 := by omega
  have hO := bits_or_0 (v : Int) (by omega) (by omega)
  have hQ2 : ((10 * v : Nat) : Int).tdiv 10 = (v : Int) := by rw [Int.tdiv_eq_ediv_of_nonneg (by omega)]; omega
  have hR2 : ((10 * v : Nat) : Int).tmod 10 = 0 := by rw [Int.tmod_eq_emod_of_nonneg (by omega)]; omega
  generalize ((10 * v : Nat) : Int) = X at hA hQ hR hQ2 hR2 ⊢
  go_enter Tryd.func60, Tryd.ntmps60
  go_wp2_with fail
  go_quiet ((go_at_call 71; with_reducible exact Calls.quiet_of_same (b2r_any _)))
  go_wp2_with fail
  go_ret
  exact ⟨rfl, below_drewN (Below.refl _ _) _⟩
end Go.Proofs.YtnofoenkeoabpaaDoor
