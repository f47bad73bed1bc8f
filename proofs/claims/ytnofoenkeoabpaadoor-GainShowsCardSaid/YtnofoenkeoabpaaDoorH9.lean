/-
  fmtEFG of nothing: the walk.
-/
import Derived.Test.YtnofoenkeoabpaaDoorH7
namespace Go.Proofs.YtnofoenkeoabpaaDoor
open Go.RowKit

set_option maxHeartbeats 4000000 in
set_option maxRecDepth 100000 in
theorem fmtZ_any (w0 w : World) (B b : Nat) (v : Value) (neg : Bool) (h : DS w0 B b [] w v []) {R : List UInt8} (hR : R = (if neg then [45] else []) ++ [48, 46, 48, 48, 48]) :
    Calls Tryd.prog 35 #[v, .bool neg, .slice none 0 0, .int .i64 0, .int .i64 0, .int .i64 3, .int .u8 102, .bool false] w fun r w' => ∃ v', r = .returned v' ∧ DS w0 B b [] w' v' R := by
  have HR := Lib.hid hR
  clear hR
  cases neg
  · rw [if_neg (by decide)] at HR
    go_enter Tryd.func35, Tryd.ntmps35
    go_wp2_with (at_builtin; first | (refine append_ds rfl _ _ rfl rfl (DS.alloc hd1 _) 46 rfl (cell_new _ _ _) (by simp) ?_; intro v2 w2 hd2) | (refine append_ds rfl _ _ rfl rfl (DS.alloc h _) 48 rfl (cell_new _ _ _) (by simp) ?_; intro v1 w1 hd1))
    refine wp_loop_rounds 1 ?_
    rw [rounds_succ]
    go_wp2_with fail
    refine wp_loop_rounds 1 ?_
    rw [rounds_succ]
    go_wp2_with fail
    refine wp_loop_rounds 4 ?_
    rw [rounds_succ]
    go_wp2_with (at_builtin; (refine append_ds rfl _ _ rfl rfl (DS.alloc hd2 _) 48 rfl (cell_new _ _ _) (by simp) ?_; intro v4 w4 hd4))
    rw [rounds_succ]
    go_wp2_with (at_builtin; (refine append_ds rfl _ _ rfl rfl (DS.alloc hd4 _) 48 rfl (cell_new _ _ _) (by simp) ?_; intro v5 w5 hd5))
    rw [rounds_succ]
    go_wp2_with (at_builtin; (refine append_ds rfl _ _ rfl rfl (DS.alloc hd5 _) 48 rfl (cell_new _ _ _) (by simp) ?_; intro v6 w6 hd6))
    rw [rounds_succ]
    go_wp2_with fail
    go_ret
    refine ⟨_, rfl, ?_⟩
    rw [HR.out]
    simpa using hd6
  · rw [if_pos rfl] at HR
    go_enter Tryd.func35, Tryd.ntmps35
    go_wp2_with (at_builtin; first | (refine append_ds rfl _ _ rfl rfl (DS.alloc hd1 _) 46 rfl (cell_new _ _ _) (by simp) ?_; intro v2 w2 hd2) | (refine append_ds rfl _ _ rfl rfl (DS.alloc hd3 _) 48 rfl (cell_new _ _ _) (by simp) ?_; intro v1 w1 hd1) | (refine append_ds rfl _ _ rfl rfl (DS.alloc h _) 45 rfl (cell_new _ _ _) (by simp) ?_; intro v3 w3 hd3))
    refine wp_loop_rounds 1 ?_
    rw [rounds_succ]
    go_wp2_with fail
    refine wp_loop_rounds 1 ?_
    rw [rounds_succ]
    go_wp2_with fail
    refine wp_loop_rounds 4 ?_
    rw [rounds_succ]
    go_wp2_with (at_builtin; (refine append_ds rfl _ _ rfl rfl (DS.alloc hd2 _) 48 rfl (cell_new _ _ _) (by simp) ?_; intro v4 w4 hd4))
    rw [rounds_succ]
    go_wp2_with (at_builtin; (refine append_ds rfl _ _ rfl rfl (DS.alloc hd4 _) 48 rfl (cell_new _ _ _) (by simp) ?_; intro v5 w5 hd5))
    rw [rounds_succ]
    go_wp2_with (at_builtin; (refine append_ds rfl _ _ rfl rfl (DS.alloc hd5 _) 48 rfl (cell_new _ _ _) (by simp) ?_; intro v6 w6 hd6))
    rw [rounds_succ]
    go_wp2_with fail
    go_ret
    refine ⟨_, rfl, ?_⟩
    rw [HR.out]
    simpa using hd6
end Go.Proofs.YtnofoenkeoabpaaDoor
