/-
  fmtEFG for three digits behind the point: fewer than four digits, and none.
-/
import Derived.Test.YtnofoenkeoabpaaDoorH7
namespace Go.Proofs.YtnofoenkeoabpaaDoor
open Go.RowKit

set_option maxHeartbeats 4000000 in
set_option maxRecDepth 100000 in
theorem fmtB_any (w0 w : World) (B b : Nat) (l : List UInt8) (v : Value) (z z0 : Nat) (neg : Bool) (h : DS w0 B b l w v []) (h1 : 1 ≤ l.length) (hl : l.length + z0 = 3) (hz : z ≤ l.length) {R : List UInt8} (hR : R = (if neg then [45] else []) ++ shown l z) :
    Calls Tryd.prog 35 #[v, .bool neg, .slice (some ⟨b, 0, none⟩) 24 24, .int .i64 (-(z0 : Int)), .int .i64 (z : Int), .int .i64 3, .int .u8 102, .bool false] w fun r w' => ∃ v', r = .returned v' ∧ DS w0 B b l w' v' R := by
  have hlen : (shown l z) = 48 :: 46 :: (List.replicate z0 48 ++ (l.take (min l.length z) ++ List.replicate (l.length - min l.length z) 48)) := by
    rw [shown, if_neg (by omega), show 3 - l.length = z0 by omega]
  rw [hlen] at hR
  clear hlen
  have HR := Lib.hid hR
  obtain ⟨n, hn0⟩ : ∃ n, n = l.length := ⟨_, rfl⟩
  obtain ⟨m, hm0⟩ : ∃ m, m = min n z := ⟨_, rfl⟩
  rw [← hn0, ← hm0] at HR
  rw [← hn0] at hl hz h1
  have hx1 : max 0 (z0 : Int) = (z0 : Int) := by omega
  have hx2 : min 3 (z0 : Int) = (z0 : Int) := by omega
  have hx3 : -(z0 : Int) + (z0 : Int) = 0 := by omega
  have hx4 : 3 - (z0 : Int) = (n : Int) := by omega
  have hx5 : max 0 (z : Int) = (z : Int) := by omega
  have hm : min (n : Int) (z : Int) = (m : Int) := by omega
  have ht : max 0 ((n : Int) - (m : Int)) = ((n - m : Nat) : Int) := by omega
  have hneg : ¬ (0 < -(z0 : Int)) := by omega
  have b1 : m ≤ n := by omega
  have b2 : z0 ≤ 3 := by omega
  have b3 : n ≤ 3 := by omega
  generalize n - m = t at ht HR
  have b4 : t ≤ 24 := by omega
  have hll : l.length ≤ 3 := by omega
  clear hm0 hR
  cases neg
  · have hd0 := h
    rw [if_neg (by decide)] at HR
    obtain ⟨pre, hpre⟩ : ∃ pre, pre = ([] : List UInt8) := ⟨_, rfl⟩
    rw [← hpre] at HR hd0
    have hpl : pre.length ≤ 1 := by rw [hpre]; decide
    clear hpre h
    go_enter Tryd.func35, Tryd.ntmps35
    go_wp2_with (at_builtin; first | (refine append_ds rfl _ _ rfl rfl (DS.alloc hd1 _) 46 rfl (cell_new _ _ _) (by simp <;> omega) ?_; intro v2 w2 hd2) | (refine append_ds rfl _ _ rfl rfl (DS.alloc hd0 _) 48 rfl (cell_new _ _ _) (by simp <;> omega) ?_; intro v1 w1 hd1))
    have hd0 := hd2
    clear hd1 hd2
    go_loopw [0, 240] (fun v' i wr => ∃ k : Nat, i = .int .i64 (k : Int) ∧ k ≤ z0 ∧ DS w0 B b l wr v' (pre ++ [48] ++ [46] ++ List.replicate k 48)) (fun _ i _ => z0 - (intOf i).toNat)
    case atStart => exact ⟨0, rfl, Nat.zero_le _, by simpa using hd0⟩
    case round =>
      obtain ⟨k, rfl, hk, hd⟩ := hrel
      by_cases hlt : k < z0
      · go_wp2_with (at_builtin; go_must (refine append_ds rfl _ _ rfl rfl (DS.alloc hd _) 48 rfl (cell_new _ _ _) (by simp; omega) ?_); intro v1 w1 hd1)
        go_roundw
        case rel => exact ⟨k + 1, by go_num, by omega, by rw [List.replicate_succ', ← List.append_assoc]; exact hd1⟩
        case measure => simp [intOf]; omega
      · have hn := hd
        rw [show k = z0 by omega] at hn
        have hn1 := hn
        clear hn hd hd0
        go_wp2_with fail
        go_loopw [0, 30, 247] (fun v' x' i wr => ∃ k : Nat, i = .int .i64 (k : Int) ∧ k ≤ m ∧ DS w0 B b l wr v' (pre ++ [48] ++ [46] ++ List.replicate z0 48 ++ l.take k)) (fun _ _ i _ => m - (intOf i).toNat)
        case atStart => exact ⟨0, rfl, Nat.zero_le _, by simpa using hn1⟩
        case round =>
          obtain ⟨k, rfl, hk, hd⟩ := hrel
          by_cases hlt : k < m
          · obtain ⟨c, hcc⟩ : ∃ c, c = l.getD (k) 0 := ⟨_, rfl⟩
            have hc := hd.2.2.2.1 (k) (by omega)
            rw [← hcc] at hc
            have hc' := fun o => (DS.alloc hd o).2.2.2.1 (k) (by omega)
            have HCC := Lib.hid hcc
            clear hcc hc'
            go_wp2_with (at_builtin; go_must (refine append_ds rfl _ _ rfl rfl (DS.alloc hd _) c rfl (cell_new _ _ _) (by simp; omega) ?_); intro v1 w1 hd1)
            go_roundw
            case rel => exact ⟨k + 1, by go_num, by omega, by rw [take_snoc (by omega), ← HCC.out, ← List.append_assoc]; exact hd1⟩
            case measure => simp [intOf]; omega
          · have hn := hd
            rw [show k = m by omega] at hn
            have hn2 := hn
            clear hn hd
            go_wp2_with fail
            go_loopw [0, 261] (fun v' i wr => ∃ k : Nat, i = .int .i64 (k : Int) ∧ k ≤ t ∧ DS w0 B b l wr v' (pre ++ [48] ++ [46] ++ List.replicate z0 48 ++ l.take m ++ List.replicate k 48)) (fun _ i _ => t - (intOf i).toNat)
            case atStart => exact ⟨0, rfl, Nat.zero_le _, by simpa using hn2⟩
            case round =>
              obtain ⟨k, rfl, hk, hd⟩ := hrel
              by_cases hlt : k < t
              · go_wp2_with (at_builtin; go_must (refine append_ds rfl _ _ rfl rfl (DS.alloc hd _) 48 rfl (cell_new _ _ _) (by simp; omega) ?_); intro v1 w1 hd1)
                go_roundw
                case rel => exact ⟨k + 1, by go_num, by omega, by rw [List.replicate_succ', ← List.append_assoc]; exact hd1⟩
                case measure => simp [intOf]; omega
              · have hn := hd
                rw [show k = t by omega] at hn
                go_wp2_with fail
                go_ret
                refine ⟨_, rfl, ?_⟩
                rw [HR.out]
                simpa using hn
  · rw [if_pos rfl] at HR
    go_enter Tryd.func35, Tryd.ntmps35
    go_wp2_with (at_builtin; first | (refine append_ds rfl _ _ rfl rfl (DS.alloc hd1 _) 46 rfl (cell_new _ _ _) (by simp <;> omega) ?_; intro v2 w2 hd2) | (refine append_ds rfl _ _ rfl rfl (DS.alloc hd3 _) 48 rfl (cell_new _ _ _) (by simp <;> omega) ?_; intro v1 w1 hd1) | (refine append_ds rfl _ _ rfl rfl (DS.alloc h _) 45 rfl (cell_new _ _ _) (by simp <;> omega) ?_; intro v3 w3 hd3))
    rw [List.nil_append] at hd2
    obtain ⟨pre, hpre⟩ : ∃ pre, pre = ([45] : List UInt8) := ⟨_, rfl⟩
    rw [← hpre] at HR hd2
    have hpl : pre.length ≤ 1 := by rw [hpre]; decide
    have hd0 := hd2
    clear hpre h hd1 hd2 hd3
    go_loopw [0, 240] (fun v' i wr => ∃ k : Nat, i = .int .i64 (k : Int) ∧ k ≤ z0 ∧ DS w0 B b l wr v' (pre ++ [48] ++ [46] ++ List.replicate k 48)) (fun _ i _ => z0 - (intOf i).toNat)
    case atStart => exact ⟨0, rfl, Nat.zero_le _, by simpa using hd0⟩
    case round =>
      obtain ⟨k, rfl, hk, hd⟩ := hrel
      by_cases hlt : k < z0
      · go_wp2_with (at_builtin; go_must (refine append_ds rfl _ _ rfl rfl (DS.alloc hd _) 48 rfl (cell_new _ _ _) (by simp; omega) ?_); intro v1 w1 hd1)
        go_roundw
        case rel => exact ⟨k + 1, by go_num, by omega, by rw [List.replicate_succ', ← List.append_assoc]; exact hd1⟩
        case measure => simp [intOf]; omega
      · have hn := hd
        rw [show k = z0 by omega] at hn
        have hn1 := hn
        clear hn hd hd0
        go_wp2_with fail
        go_loopw [0, 30, 247] (fun v' x' i wr => ∃ k : Nat, i = .int .i64 (k : Int) ∧ k ≤ m ∧ DS w0 B b l wr v' (pre ++ [48] ++ [46] ++ List.replicate z0 48 ++ l.take k)) (fun _ _ i _ => m - (intOf i).toNat)
        case atStart => exact ⟨0, rfl, Nat.zero_le _, by simpa using hn1⟩
        case round =>
          obtain ⟨k, rfl, hk, hd⟩ := hrel
          by_cases hlt : k < m
          · obtain ⟨c, hcc⟩ : ∃ c, c = l.getD (k) 0 := ⟨_, rfl⟩
            have hc := hd.2.2.2.1 (k) (by omega)
            rw [← hcc] at hc
            have hc' := fun o => (DS.alloc hd o).2.2.2.1 (k) (by omega)
            have HCC := Lib.hid hcc
            clear hcc hc'
            go_wp2_with (at_builtin; go_must (refine append_ds rfl _ _ rfl rfl (DS.alloc hd _) c rfl (cell_new _ _ _) (by simp; omega) ?_); intro v1 w1 hd1)
            go_roundw
            case rel => exact ⟨k + 1, by go_num, by omega, by rw [take_snoc (by omega), ← HCC.out, ← List.append_assoc]; exact hd1⟩
            case measure => simp [intOf]; omega
          · have hn := hd
            rw [show k = m by omega] at hn
            have hn2 := hn
            clear hn hd
            go_wp2_with fail
            go_loopw [0, 261] (fun v' i wr => ∃ k : Nat, i = .int .i64 (k : Int) ∧ k ≤ t ∧ DS w0 B b l wr v' (pre ++ [48] ++ [46] ++ List.replicate z0 48 ++ l.take m ++ List.replicate k 48)) (fun _ i _ => t - (intOf i).toNat)
            case atStart => exact ⟨0, rfl, Nat.zero_le _, by simpa using hn2⟩
            case round =>
              obtain ⟨k, rfl, hk, hd⟩ := hrel
              by_cases hlt : k < t
              · go_wp2_with (at_builtin; go_must (refine append_ds rfl _ _ rfl rfl (DS.alloc hd _) 48 rfl (cell_new _ _ _) (by simp; omega) ?_); intro v1 w1 hd1)
                go_roundw
                case rel => exact ⟨k + 1, by go_num, by omega, by rw [List.replicate_succ', ← List.append_assoc]; exact hd1⟩
                case measure => simp [intOf]; omega
              · have hn := hd
                rw [show k = t by omega] at hn
                go_wp2_with fail
                go_ret
                refine ⟨_, rfl, ?_⟩
                rw [HR.out]
                simpa using hn
end Go.Proofs.YtnofoenkeoabpaaDoor
