/-
  fmtEFG for three digits behind the point: the walk.
-/
import Derived.Test.YtnofoenkeoabpaaDoorH6
namespace Go.Proofs.YtnofoenkeoabpaaDoor
open Go.RowKit

theorem getD_drop (l : List UInt8) (p k : Nat) : (l.drop p).getD k 0 = l.getD (p + k) 0 := by simp only [List.getD, List.getElem?_drop]
@[go_sem] theorem min30 : min (3 : Int) 0 = 0 := rfl
/-- What is written so far; the digits, elsewhere. -/
def DS (w0 : World) (B b : Nat) (l : List UInt8) (w : World) (v : Value) (bl : List UInt8) : Prop :=
  OwnB w B v bl ∧ Below B w0 w ∧ v.ownBlock ≠ some b ∧ (∀ j, j < l.length → w.cell? ⟨b, j, none⟩ = some (.int .u8 ((l.getD j 0).toNat : Nat))) ∧ b < w.heap.size ∧ B ≤ w.heap.size
theorem DS.alloc {w0 w : World} {B b : Nat} {l : List UInt8} {v : Value} {bl : List UInt8} (h : DS w0 B b l w v bl) (o : Obj) : DS w0 B b l (w.alloc o) v bl := by
  obtain ⟨h1, h2, h3, h4, h5, h6⟩ := h
  have hz : (w.alloc o).heap.size = w.heap.size + 1 := by simp
  exact ⟨h1.alloc o, h2.alloc h6 o, h3, fun j hj => ((Below.alloc (Below.refl w.heap.size w) (Nat.le_refl _) o).cell (p := ⟨b, j, none⟩) h5).trans (h4 j hj), by omega, by omega⟩
theorem DS.drewN {w0 w : World} {B b : Nat} {l : List UInt8} {v : Value} {bl : List UInt8} (h : DS w0 B b l w v bl) (n : Nat) : DS w0 B b l (w.drewN n) v bl := by
  obtain ⟨h1, h2, h3, h4, h5, h6⟩ := h
  exact ⟨h1.below (below_drewN (Below.refl _ _) n), below_drewN h2 n, h3, h4, h5, h6⟩
theorem append_ds {w : World} {ops : Array Oper} {rest : List Oper} {o : Oper} {a : Act} {Q : Exit → Act → World → Prop} (hgd : o.guard = none) (s x : Operand)
    (ho : o.op = .call { callee := .builtin .append, args := #[s, x], argTypes := #[36, 36] }) {B b : Nat} {v : Value} {l bl : List UInt8} {w0 : World} (hs : a.eval s = v) (hd : DS w0 B b l w v bl)
    {g : Nat} (c : UInt8) (hx : a.eval x = .slice (some ⟨g, 0, none⟩) 1 1) (hcell : w.cell? ⟨g, 0, none⟩ = some (.int .u8 ((c.toNat : Nat) : Int))) (hlen : bl.length + 1 ≤ 140737488355328)
    (h : ∀ v' w', DS w0 B b l w' v' (bl ++ [c]) → wpList Tryd.prog ops Q rest (a.put o.dst v') w') : wpList Tryd.prog ops Q (o :: rest) a w := by
  obtain ⟨h1, h2, h3, h4, h5, h6⟩ := hd
  refine append_byte_lies (v := v) hgd s x ho hs h1 c hx hcell hlen h6 ?_
  intro g' cap w' k1 k2 k3
  have hg' : g' ≠ b := by
    rcases k3 with k3 | rfl
    · intro e; rw [e] at k3; exact h3 k3
    · omega
  refine h _ _ ⟨k1, h2.grown k2 h6 (fun k hk => ?_), ?_, fun j hj => ?_, ?_, ?_⟩
  · rcases h1.form with ⟨rfl, _⟩ | ⟨g1, cap1, rfl, h, _⟩
    · cases hk
    · have : g1 = k := by injection hk
      omega
  · intro e
    exact hg' (by injection e)
  · rw [World.cell?_of_block (k2.block b h5 (fun e => h3 e.symm))]; exact h4 j hj
  · exact Nat.lt_of_lt_of_le h5 k2.size
  · exact Nat.le_trans h6 k2.size
set_option maxHeartbeats 4000000 in
set_option maxRecDepth 100000 in
theorem fmtA_any (w0 w : World) (B b : Nat) (l : List UInt8) (v : Value) (z P : Nat) (neg : Bool) (h : DS w0 B b l w v []) (hP : 1 ≤ P) (hl : l.length = P + 3) (hz : z ≤ P + 3) (hl24 : P + 3 ≤ 24) {R : List UInt8} (hR : R = (if neg then [45] else []) ++ shown l z) :
    Calls Tryd.prog 35 #[v, .bool neg, .slice (some ⟨b, 0, none⟩) 24 24, .int .i64 (P : Int), .int .i64 (z : Int), .int .i64 3, .int .u8 102, .bool false] w fun r w' => ∃ v', r = .returned v' ∧ DS w0 B b l w' v' R := by
  have hlen : (shown l z) = l.take (min z P) ++ List.replicate (P - min z P) 48 ++ 46 :: ((l.drop P).take (min 3 (z - P)) ++ List.replicate (3 - min 3 (z - P)) 48) := by
    rw [shown, if_pos (by omega), padT, hl, Nat.add_sub_cancel]
  rw [hlen] at hR
  clear hlen
  have HR := Lib.hid hR
  obtain ⟨m, hm0⟩ : ∃ m, m = min z P := ⟨_, rfl⟩
  obtain ⟨q, hq0⟩ : ∃ q, q = z - P := ⟨_, rfl⟩
  obtain ⟨m2, hm20⟩ : ∃ m2, m2 = min 3 q := ⟨_, rfl⟩
  rw [← hq0, ← hm20, ← hm0] at HR
  have hm : min (z : Int) (P : Int) = (m : Int) := by omega
  have ht : (P : Int) - (m : Int) = ((P - m : Nat) : Int) := by omega
  have hx0 : max 0 (-(P : Int)) = 0 := by omega
  have hq : max 0 ((z : Int) - (P : Int)) = (q : Int) := by omega
  have hm2 : min 3 (q : Int) = (m2 : Int) := by omega
  have ht2 : max 0 (3 - (m2 : Int)) = ((3 - m2 : Nat) : Int) := by omega
  have hP0 : 0 < P := hP
  have b1 : m ≤ P := by omega
  have b2 : m2 ≤ 3 := by omega
  generalize P - m = t at ht HR
  generalize 3 - m2 = t2 at ht2 HR
  have b3 : t ≤ 24 := by omega
  have b4 : t2 ≤ 24 := by omega
  clear hm0 hq0 hm20 hR
  cases neg
  · have hd0 := h
    rw [if_neg (by decide)] at HR
    obtain ⟨pre, hpre⟩ : ∃ pre, pre = ([] : List UInt8) := ⟨_, rfl⟩
    rw [← hpre] at HR hd0
    have hpl : pre.length ≤ 1 := by rw [hpre]; decide
    clear hpre h
    go_enter Tryd.func35, Tryd.ntmps35
    go_wp2_with fail
    go_loopw [0, 25, 191] (fun v' x' i wr => ∃ k : Nat, i = .int .i64 (k : Int) ∧ k ≤ m ∧ DS w0 B b l wr v' (pre ++ l.take k)) (fun _ _ i _ => m - (intOf i).toNat)
    case atStart => exact ⟨0, rfl, Nat.zero_le _, by simpa using hd0⟩
    case round =>
      obtain ⟨k, rfl, hk, hd⟩ := hrel
      by_cases hlt : k < m
      · obtain ⟨c, hcc⟩ : ∃ c, c = l.getD (k) 0 := ⟨_, rfl⟩
        have hc := hd.2.2.2.1 (k) (by omega)
        rw [← hcc] at hc
        have hc' := fun o => (DS.alloc hd o).2.2.2.1 (k) (by omega)
        have HCC := Lib.hid hcc
        clear hcc hc'
        go_wp2_with (at_builtin; go_must (refine append_ds rfl _ _ rfl rfl (DS.alloc hd _) c rfl (cell_new _ _ _) (by simp; omega) ?_); intro v1 w1 hd1)
        go_roundw
        case rel => exact ⟨k + 1, by go_num, by omega, by rw [take_snoc (by omega), ← HCC.out, ← List.append_assoc]; exact hd1⟩
        case measure => simp [intOf]; omega
      · have hn := hd
        rw [show k = m by omega] at hn
        have hn1 := hn
        clear hn hd hd0
        go_wp2_with fail
        go_loopw [0, 203] (fun v' i wr => ∃ k : Nat, i = .int .i64 (k : Int) ∧ k ≤ t ∧ DS w0 B b l wr v' (pre ++ l.take m ++ List.replicate k 48)) (fun _ i _ => t - (intOf i).toNat)
        case atStart => exact ⟨0, rfl, Nat.zero_le _, by simpa using hn1⟩
        case round =>
          obtain ⟨k, rfl, hk, hd⟩ := hrel
          by_cases hlt : k < t
          · go_wp2_with (at_builtin; go_must (refine append_ds rfl _ _ rfl rfl (DS.alloc hd _) 48 rfl (cell_new _ _ _) (by simp; omega) ?_); intro v1 w1 hd1)
            go_roundw
            case rel => exact ⟨k + 1, by go_num, by omega, by rw [List.replicate_succ', ← List.append_assoc]; exact hd1⟩
            case measure => simp [intOf]; omega
          · have hn := hd
            rw [show k = t by omega] at hn
            go_wp2_with (at_builtin; go_must (refine append_ds rfl _ _ rfl rfl (DS.alloc hn _) 46 rfl (cell_new _ _ _) (by simp; omega) ?_); intro v1 w1 hd1)
            clear hn hd
            have hn3 := hd1
            clear hd1
            refine wp_loop_rounds 1 ?_
            rw [rounds_succ]
            go_wp2_with fail
            go_loopw [0, 30, 247] (fun v' x' i wr => ∃ k : Nat, i = .int .i64 (k : Int) ∧ k ≤ m2 ∧ DS w0 B b l wr v' (pre ++ l.take m ++ List.replicate t 48 ++ [46] ++ (l.drop P).take k)) (fun _ _ i _ => m2 - (intOf i).toNat)
            case atStart => exact ⟨0, rfl, Nat.zero_le _, by simpa using hn3⟩
            case round =>
              obtain ⟨k, rfl, hk, hd⟩ := hrel
              by_cases hlt : k < m2
              · obtain ⟨c, hcc⟩ : ∃ c, c = l.getD (P + k) 0 := ⟨_, rfl⟩
                have hc := hd.2.2.2.1 (P + k) (by omega)
                rw [← hcc] at hc
                have hc' := fun o => (DS.alloc hd o).2.2.2.1 (P + k) (by omega)
                have HCC := Lib.hid hcc
                clear hcc hc'
                go_wp2_with (at_builtin; go_must (refine append_ds rfl _ _ rfl rfl (DS.alloc hd _) c rfl (cell_new _ _ _) (by simp; omega) ?_); intro v1 w1 hd1)
                go_roundw
                case rel => exact ⟨k + 1, by go_num, by omega, by rw [take_snoc (by simp; omega), getD_drop, ← HCC.out, ← List.append_assoc]; exact hd1⟩
                case measure => simp [intOf]; omega
              · have hn := hd
                rw [show k = m2 by omega] at hn
                have hn4 := hn
                clear hn hd
                go_wp2_with fail
                go_loopw [0, 261] (fun v' i wr => ∃ k : Nat, i = .int .i64 (k : Int) ∧ k ≤ t2 ∧ DS w0 B b l wr v' (pre ++ l.take m ++ List.replicate t 48 ++ [46] ++ (l.drop P).take m2 ++ List.replicate k 48)) (fun _ i _ => t2 - (intOf i).toNat)
                case atStart => exact ⟨0, rfl, Nat.zero_le _, by simpa using hn4⟩
                case round =>
                  obtain ⟨k, rfl, hk, hd⟩ := hrel
                  by_cases hlt : k < t2
                  · go_wp2_with (at_builtin; go_must (refine append_ds rfl _ _ rfl rfl (DS.alloc hd _) 48 rfl (cell_new _ _ _) (by simp; omega) ?_); intro v1 w1 hd1)
                    go_roundw
                    case rel => exact ⟨k + 1, by go_num, by omega, by rw [List.replicate_succ', ← List.append_assoc]; exact hd1⟩
                    case measure => simp [intOf]; omega
                  · have hn := hd
                    rw [show k = t2 by omega] at hn
                    go_wp2_with fail
                    go_ret
                    refine ⟨_, rfl, ?_⟩
                    rw [HR.out]
                    simpa using hn
  · rw [if_pos rfl] at HR
    go_enter Tryd.func35, Tryd.ntmps35
    go_wp2_with (at_builtin; go_must (refine append_ds rfl _ _ rfl rfl (DS.alloc h _) 45 rfl (cell_new _ _ _) (by simp) ?_); intro v1 w1 hd0)
    rw [List.nil_append] at hd0
    obtain ⟨pre, hpre⟩ : ∃ pre, pre = ([45] : List UInt8) := ⟨_, rfl⟩
    rw [← hpre] at HR hd0
    have hpl : pre.length ≤ 1 := by rw [hpre]; decide
    clear hpre h
    go_loopw [0, 25, 191] (fun v' x' i wr => ∃ k : Nat, i = .int .i64 (k : Int) ∧ k ≤ m ∧ DS w0 B b l wr v' (pre ++ l.take k)) (fun _ _ i _ => m - (intOf i).toNat)
    case atStart => exact ⟨0, rfl, Nat.zero_le _, by simpa using hd0⟩
    case round =>
      obtain ⟨k, rfl, hk, hd⟩ := hrel
      by_cases hlt : k < m
      · obtain ⟨c, hcc⟩ : ∃ c, c = l.getD (k) 0 := ⟨_, rfl⟩
        have hc := hd.2.2.2.1 (k) (by omega)
        rw [← hcc] at hc
        have hc' := fun o => (DS.alloc hd o).2.2.2.1 (k) (by omega)
        have HCC := Lib.hid hcc
        clear hcc hc'
        go_wp2_with (at_builtin; go_must (refine append_ds rfl _ _ rfl rfl (DS.alloc hd _) c rfl (cell_new _ _ _) (by simp; omega) ?_); intro v1 w1 hd1)
        go_roundw
        case rel => exact ⟨k + 1, by go_num, by omega, by rw [take_snoc (by omega), ← HCC.out, ← List.append_assoc]; exact hd1⟩
        case measure => simp [intOf]; omega
      · have hn := hd
        rw [show k = m by omega] at hn
        have hn1 := hn
        clear hn hd hd0
        go_wp2_with fail
        go_loopw [0, 203] (fun v' i wr => ∃ k : Nat, i = .int .i64 (k : Int) ∧ k ≤ t ∧ DS w0 B b l wr v' (pre ++ l.take m ++ List.replicate k 48)) (fun _ i _ => t - (intOf i).toNat)
        case atStart => exact ⟨0, rfl, Nat.zero_le _, by simpa using hn1⟩
        case round =>
          obtain ⟨k, rfl, hk, hd⟩ := hrel
          by_cases hlt : k < t
          · go_wp2_with (at_builtin; go_must (refine append_ds rfl _ _ rfl rfl (DS.alloc hd _) 48 rfl (cell_new _ _ _) (by simp; omega) ?_); intro v1 w1 hd1)
            go_roundw
            case rel => exact ⟨k + 1, by go_num, by omega, by rw [List.replicate_succ', ← List.append_assoc]; exact hd1⟩
            case measure => simp [intOf]; omega
          · have hn := hd
            rw [show k = t by omega] at hn
            go_wp2_with (at_builtin; go_must (refine append_ds rfl _ _ rfl rfl (DS.alloc hn _) 46 rfl (cell_new _ _ _) (by simp; omega) ?_); intro v1 w1 hd1)
            clear hn hd
            have hn3 := hd1
            clear hd1
            refine wp_loop_rounds 1 ?_
            rw [rounds_succ]
            go_wp2_with fail
            go_loopw [0, 30, 247] (fun v' x' i wr => ∃ k : Nat, i = .int .i64 (k : Int) ∧ k ≤ m2 ∧ DS w0 B b l wr v' (pre ++ l.take m ++ List.replicate t 48 ++ [46] ++ (l.drop P).take k)) (fun _ _ i _ => m2 - (intOf i).toNat)
            case atStart => exact ⟨0, rfl, Nat.zero_le _, by simpa using hn3⟩
            case round =>
              obtain ⟨k, rfl, hk, hd⟩ := hrel
              by_cases hlt : k < m2
              · obtain ⟨c, hcc⟩ : ∃ c, c = l.getD (P + k) 0 := ⟨_, rfl⟩
                have hc := hd.2.2.2.1 (P + k) (by omega)
                rw [← hcc] at hc
                have hc' := fun o => (DS.alloc hd o).2.2.2.1 (P + k) (by omega)
                have HCC := Lib.hid hcc
                clear hcc hc'
                go_wp2_with (at_builtin; go_must (refine append_ds rfl _ _ rfl rfl (DS.alloc hd _) c rfl (cell_new _ _ _) (by simp; omega) ?_); intro v1 w1 hd1)
                go_roundw
                case rel => exact ⟨k + 1, by go_num, by omega, by rw [take_snoc (by simp; omega), getD_drop, ← HCC.out, ← List.append_assoc]; exact hd1⟩
                case measure => simp [intOf]; omega
              · have hn := hd
                rw [show k = m2 by omega] at hn
                have hn4 := hn
                clear hn hd
                go_wp2_with fail
                go_loopw [0, 261] (fun v' i wr => ∃ k : Nat, i = .int .i64 (k : Int) ∧ k ≤ t2 ∧ DS w0 B b l wr v' (pre ++ l.take m ++ List.replicate t 48 ++ [46] ++ (l.drop P).take m2 ++ List.replicate k 48)) (fun _ i _ => t2 - (intOf i).toNat)
                case atStart => exact ⟨0, rfl, Nat.zero_le _, by simpa using hn4⟩
                case round =>
                  obtain ⟨k, rfl, hk, hd⟩ := hrel
                  by_cases hlt : k < t2
                  · go_wp2_with (at_builtin; go_must (refine append_ds rfl _ _ rfl rfl (DS.alloc hd _) 48 rfl (cell_new _ _ _) (by simp; omega) ?_); intro v1 w1 hd1)
                    go_roundw
                    case rel => exact ⟨k + 1, by go_num, by omega, by rw [List.replicate_succ', ← List.append_assoc]; exact hd1⟩
                    case measure => simp [intOf]; omega
                  · have hn := hd
                    rw [show k = t2 by omega] at hn
                    go_wp2_with fail
                    go_ret
                    refine ⟨_, rfl, ?_⟩
                    rw [HR.out]
                    simpa using hn
end Go.Proofs.YtnofoenkeoabpaaDoor
