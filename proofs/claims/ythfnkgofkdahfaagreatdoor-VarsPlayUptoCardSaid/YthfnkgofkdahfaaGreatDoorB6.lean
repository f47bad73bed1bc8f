/-
  The walks of SetArgs, SetStatus, Shift.
-/
import Derived.Test.YthfnkgofkdahfaaGreatDoorB5
import Derived.Test.YthfnkgofkdahfaaGreatDoorV2
namespace Go.Proofs.YthfnkgofkdahfaaGreatDoor
open Go.RowKit

section
variable {v0 : Value} {lo g mb n : Nat} {l : List (Nm × Xd)} {xs : List ByteArray} {st : Int}
/-- The parameters turn. -/
theorem VS.args {v0 : Value} {w w1 : World} {lo g mb n : Nat} {l : List (Nm × Xd)} {xs ys : List ByteArray} {st : Int} {v : Value} (h : VS v0 w lo g mb n l xs st) (hb : Below w.heap.size w w1) (ho : OwnS w1 w.heap.size v ys) :
    VS v (w1.setCell ⟨g, 2, none⟩ v) lo g mb n l ys st ∧ (∀ b, v.ownBlock = some b → w.heap.size ≤ b) ∧ But g mb w (w1.setCell ⟨g, 2, none⟩ v) := by
  obtain ⟨m, q1, q2, q3, q4, q5, q6⟩ := h
  have hg := q3.lt
  have hm := q5.lt
  exact ⟨⟨m, q1, ⟨own_ge ho hg, own_ge ho hm⟩, (q3.below hb hg).put 2 v, own_from (own_far ho (p := ⟨g, 2, none⟩) hg v) (by omega), (q5.below hb).set (p := ⟨g, 2, none⟩) q1.2.2 v, q6⟩, fun b hb => (World.ownsRow.lt ho b hb).1, (But.of_below hb).setG 2 v⟩

set_option maxHeartbeats 1000000 in
theorem vsetargs_any (a : Option Addr) (k c : Nat) (ys : List ByteArray) (w : World) (B : Nat) (hV : VS v0 w lo g mb n l xs st) (hE : Elems w B a k (ys.map .string)) (hB : B ≤ w.heap.size) (hk : k ≤ 1000) :
    Calls Tryz.prog 25 #[.pointer (some ⟨g, 0, none⟩), .slice a k c] w fun e w' => e = .returned (.tuple #[]) ∧ ∃ v', VS v' w' lo g mb n l ys st ∧ (∀ b, v'.ownBlock = some b → w.heap.size ≤ b) ∧ But g mb w w' := by
  have CC := Lib.hid (clone_any a k c ys w B hE hk)
  have HV := Lib.hid hV
  clear hE hV
  go_enter Tryz.func25, Tryz.ntmps25
  go_wp2_with fail
  refine CC.out.mono ?_
  rintro e w1 ⟨v', rfl, ho, hb1⟩
  obtain ⟨m, q1, q2, q3, q4⟩ := HV.out
  have z := q3.below hb1 q3.lt
  have y2 := z.cell 2
  have z2 := z.free 2
  simp at y2
  have HH := Lib.hid (HV.out.args hb1 ho)
  obtain ⟨va, vc, rfl⟩ := own_shape ho
  clear ho hb1 q1 q2 q3 q4 z
  go_wp2_with fail
  go_end0
  exact ⟨rfl, _, HH.out⟩

set_option maxHeartbeats 1000000 in
theorem vsetstatus_any (k : Int) (w : World) (hV : VS v0 w lo g mb n l xs st) :
    Calls Tryz.prog 26 #[.pointer (some ⟨g, 0, none⟩), .int .i64 k] w fun e w' => e = .returned (.tuple #[]) ∧ VS v0 w' lo g mb n l xs k ∧ But g mb w w' := by
  obtain ⟨m, q1, q2, q3, q4, q5, q6⟩ := hV
  have y3 := q3.cell 3
  have z3 := q3.free 3
  simp at y3
  have HH : Hid (VS v0 (w.setCell ⟨g, 3, none⟩ (.int .i64 k)) lo g mb n l xs k) := Lib.hid ⟨m, q1, q2, q3.put 3 _, own_but q4 ((But.refl g mb w).setG 3 _) q2.1 q2.2, q5.set (p := ⟨g, 3, none⟩) q1.2.2 _, q6⟩
  clear q1 q2 q3 q4 q5 q6
  go_enter Tryz.func26, Tryz.ntmps26
  go_wp2_with fail
  go_end0
  exact ⟨rfl, HH.out, (But.refl g mb w).setG 3 _⟩

set_option maxHeartbeats 1000000 in
theorem vshift_bad (k : Int) (w : World) (hV : VS v0 w lo g mb n l xs st) (hn : xs.length ≤ 1000) (hk : k < 0 ∨ (xs.length : Int) < k) :
    Calls Tryz.prog 24 #[.pointer (some ⟨g, 0, none⟩), .int .i64 k] w fun e w' => e = .returned (.int .i64 10) ∧ w = w' := by
  obtain ⟨m, q1, q2, q3, q4, q5, q6⟩ := hV
  obtain ⟨a, c, rfl, hE⟩ := q4.elems (by unfold maxLen; omega)
  have y2 := q3.cell 2
  simp at y2
  clear q1 q2 q3 q4 q5 q6 hE
  by_cases h0 : k < 0
  · clear hk
    go_enter Tryz.func24, Tryz.ntmps24
    go_wp2
    go_ret
    exact ⟨rfl, rfl⟩
  · have h1 : (xs.length : Int) < k := by omega
    clear hk
    go_enter Tryz.func24, Tryz.ntmps24
    go_wp2
    go_ret
    exact ⟨rfl, rfl⟩

set_option maxHeartbeats 1000000 in
theorem vshift_any (k : Nat) (w : World) (hV : VS v0 w lo g mb n l xs st) (hn : xs.length ≤ 1000) (hk : k ≤ xs.length) :
    Calls Tryz.prog 24 #[.pointer (some ⟨g, 0, none⟩), .int .i64 (k : Int)] w fun e w' => e = .returned (.int .i64 0) ∧ ∃ v', VS v' w' lo g mb n l (xs.drop k) st ∧ (∀ b, v'.ownBlock = some b → w.heap.size ≤ b) ∧ But g mb w w' := by
  have HV := Lib.hid hV
  obtain ⟨m, q1, q2, q3, q4, q5, q6⟩ := hV
  have hlg := q3.lt
  obtain ⟨v2, hv2, hsl⟩ := (Sl.of_own q4).cut (P := Tryz.prog) 22 9 Tryz.underlying22 (by kernel_rfl) hk
  obtain ⟨a2, c2, rfl, hE2⟩ := sl_elems hsl
  obtain ⟨a, c, rfl, hE⟩ := q4.elems (by unfold maxLen; omega)
  have hd : (xs.map Value.string).drop (k * 1) = (xs.drop k).map Value.string := by rw [Nat.mul_one, List.map_drop]
  rw [hd] at hE2
  have CC : Hid (Calls Tryz.prog 12 #[.slice a2 (xs.length - k) c2] w fun e w' => ∃ v', e = .returned v' ∧ OwnS w' w.heap.size v' (xs.drop k) ∧ Below w.heap.size w w') := Lib.hid (clone_any a2 _ c2 _ w _ hE2 (by omega))
  have y2 := q3.cell 2
  simp at y2
  have HBK := Lib.hid q3
  clear q1 q2 q3 q4 q5 q6 hE hE2 hd hsl
  go_enter Tryz.func24, Tryz.ntmps24
  go_wp2_with fail
  refine CC.out.mono ?_
  rintro e w1 ⟨v', rfl, ho, hb1⟩
  have z := HBK.out.below hb1 hlg
  have y2' := z.cell 2
  have z2 := z.free 2
  simp at y2'
  have HH := Lib.hid (HV.out.args hb1 ho)
  obtain ⟨va, vc, hv'⟩ := own_shape ho
  rw [List.length_drop] at hv'
  subst hv'
  clear ho hb1 z y2
  go_wp2
  go_ret
  exact ⟨rfl, _, HH.out⟩
end
end Go.Proofs.YthfnkgofkdahfaaGreatDoor
