/-
  The walks of Get, Fixed, Status, Args, Split: the program's, and the document's Split.
-/
import Derived.Test.YthfnkgofkdahfaaGreatDoorP1
import Derived.Test.YthfnkgofkdahfaaGreatDoorB9
namespace Go.Proofs.YthfnkgofkdahfaaGreatDoor
open Go.RowKit

section
variable {lo g mb n : Nat} {l : List (Nm × Xd)} {xs : List ByteArray} {st : Int}
set_option maxHeartbeats 1000000 in
theorem vget_any (nm : ByteArray) (w : World) (hV : VSt w lo g mb n l xs st) (hnm : nm.size ≤ maxLen) :
    Calls Tryz.prog 27 #[.pointer (some ⟨g, 0, none⟩), .string nm] w fun e w' => e = .returned (.tuple #[.string ⟨(find l (L nm)).text.toArray⟩, .bool (find l (L nm)).set]) ∧ Below w.heap.size w w' := by
  obtain ⟨v, m, q1, q2, q3, q4, q5, q6, q7, q8⟩ := hV
  obtain ⟨⟨t0, s0, e0, f0⟩, hx⟩ : ∃ x, find l (L nm) = x := ⟨_, rfl⟩
  have hlk : (Instr.lookup 41 (.map (some mb)) (.string nm) false).run Tryz.prog w = .ok (.agg #[.string ⟨t0.toArray⟩, .bool s0, .bool e0, .bool f0]) w := by
    rw [look_var q5 q6 nm hnm, hx]; rfl
  have y0 := q3.cell 0
  simp at y0
  have hlg := q3.lt
  rw [hx]
  clear hx q1 q2 q3 q4 q5 q6 q7 q8
  go_enter Tryz.func27, Tryz.ntmps27
  go_wp2_with fail
  go_quiet (fail)
  go_wp2_with fail
  go_ret2
  exact ⟨rfl, below_drewN ((Below.refl _ _).alloc (Nat.le_refl _) _) nq⟩
set_option maxHeartbeats 1000000 in
theorem vfixed_any (nm : ByteArray) (w : World) (hV : VSt w lo g mb n l xs st) (hnm : nm.size ≤ maxLen) :
    Calls Tryz.prog 29 #[.pointer (some ⟨g, 0, none⟩), .string nm] w fun e w' => e = .returned (.bool (find l (L nm)).fix) ∧ w = w' := by
  obtain ⟨v, m, q1, q2, q3, q4, q5, q6, q7, q8⟩ := hV
  obtain ⟨⟨t0, s0, e0, f0⟩, hx⟩ : ∃ x, find l (L nm) = x := ⟨_, rfl⟩
  have hlk : (Instr.lookup 41 (.map (some mb)) (.string nm) false).run Tryz.prog w = .ok (.agg #[.string ⟨t0.toArray⟩, .bool s0, .bool e0, .bool f0]) w := by
    rw [look_var q5 q6 nm hnm, hx]; rfl
  have y0 := q3.cell 0
  simp at y0
  have hlg := q3.lt
  rw [hx]
  clear hx q1 q2 q3 q4 q5 q6 q7 q8
  have hfd := field3 ⟨t0.toArray⟩ s0 e0 f0
  go_enter Tryz.func29, Tryz.ntmps29
  go_wp2_with fail
  go_ret
  exact ⟨rfl, rfl⟩
theorem vstatus_any (w : World) (hV : VSt w lo g mb n l xs st) :
    Calls Tryz.prog 37 #[.pointer (some ⟨g, 0, none⟩)] w fun e w' => e = .returned (.int .i64 st) ∧ w = w' := by
  obtain ⟨v, m, q1, q2, q3, q4, q5, q6⟩ := hV
  have y3 := q3.cell 3
  simp at y3
  clear q1 q2 q3 q4 q5 q6
  go_enter Tryz.func37, Tryz.ntmps37
  go_wp2_with fail
  go_ret
  exact ⟨rfl, rfl⟩
theorem vargs_any (w : World) (hV : VSt w lo g mb n l xs st) (hx : xs.length ≤ 1000) :
    Calls Tryz.prog 36 #[.pointer (some ⟨g, 0, none⟩)] w fun e w' => ∃ a c, e = .returned (.slice a xs.length c) ∧ Elems w' w'.heap.size a xs.length (xs.map .string) ∧ Below w.heap.size w w' := by
  obtain ⟨v, m, q1, q2, q3, q4, q5, q6⟩ := hV
  obtain ⟨a, c, rfl, hE⟩ := q4.elems (by unfold maxLen; omega)
  have CC : Hid (Calls Tryz.prog 12 #[.slice a xs.length c] w fun e w' => ∃ v', e = .returned v' ∧ OwnS w' w.heap.size v' xs ∧ Below w.heap.size w w') := Lib.hid (clone_any a _ c xs w _ hE hx)
  have y2 := q3.cell 2
  simp at y2
  clear q1 q2 q3 q4 q5 q6 hE
  go_enter Tryz.func36, Tryz.ntmps36
  go_wp2_with fail
  refine CC.out.mono ?_
  rintro e w1 ⟨v', rfl, ho, hb1⟩
  obtain ⟨a', c', rfl, hE'⟩ := ho.elems (by unfold maxLen; omega)
  go_wp2
  go_ret
  exact ⟨_, _, rfl, hE', hb1⟩
def ifs : Nm := [73, 70, 83]
/-- Where fields are split. -/
def splitL (l : List (Nm × Xd)) : Nm := if (find l ifs).set then (find l ifs).text else [32, 9, 10]
set_option maxHeartbeats 1000000 in
theorem vsplit_any (w : World) (hV : VSt w lo g mb n l xs st) :
    Calls Tryz.prog 38 #[.pointer (some ⟨g, 0, none⟩)] w fun e w' => e = .returned (.string ⟨(splitL l).toArray⟩) ∧ Below w.heap.size w w' := by
  have CG : Hid (Calls Tryz.prog 27 #[.pointer (some ⟨g, 0, none⟩), .string ⟨#[73, 70, 83]⟩] w fun e w' => e = .returned (.tuple #[.string ⟨(find l ifs).text.toArray⟩, .bool (find l ifs).set]) ∧ Below w.heap.size w w') := Lib.hid (vget_any ⟨#[73, 70, 83]⟩ w hV (by unfold maxLen; decide))
  obtain ⟨⟨t0, s0, e0, f0⟩, hx⟩ : ∃ x, find l ifs = x := ⟨_, rfl⟩
  have HS : Hid (splitL l = if s0 then t0 else [32, 9, 10]) := Lib.hid (by rw [splitL, hx])
  rw [hx] at CG
  simp only at CG
  clear hx hV
  cases s0
  · rw [show splitL l = [32, 9, 10] from HS.out]
    clear HS
    go_enter Tryz.func38, Tryz.ntmps38
    go_wp2_with fail
    refine CG.out.mono ?_
    rintro e w1 ⟨rfl, hb1⟩
    have HB1 := Lib.hid hb1
    clear hb1
    go_wp2_with fail
    go_ret
    exact ⟨rfl, HB1.out⟩
  · rw [show splitL l = t0 from HS.out]
    clear HS
    go_enter Tryz.func38, Tryz.ntmps38
    go_wp2_with fail
    refine CG.out.mono ?_
    rintro e w1 ⟨rfl, hb1⟩
    have HB1 := Lib.hid hb1
    clear hb1
    go_wp2_with fail
    go_ret
    exact ⟨rfl, HB1.out⟩
end
section
variable {lo B : Nat} {V : Value} {l : List (Nm × Xd)} {xs : List ByteArray} {st : Int}
set_option maxHeartbeats 1000000 in
theorem rsplit_any (w : World) (hR : RSt w lo B V l xs st) (hl : l.length ≤ 1000) :
    Calls Tryz.prog 39 #[V] w fun e w' => e = .returned (.string ⟨(splitL l).toArray⟩) ∧ Below w.heap.size w w' := by
  obtain ⟨vL, a, c, rfl, hL, hE⟩ := hR
  obtain ⟨⟨t0, s0, e0, f0⟩, hx⟩ : ∃ x, find l ifs = x := ⟨_, rfl⟩
  obtain ⟨n, hn⟩ : ∃ n, n = xs.length := ⟨_, rfl⟩
  rw [← hn]
  have CF : Hid (∀ W, Below w.heap.size w W → Calls Tryz.prog 28 #[.agg #[vL, .string ⟨#[115, 104]⟩, .slice a n c, .int .i64 st], .string ⟨#[73, 70, 83]⟩] W fun e w' =>
      e = .returned (.agg #[.string ⟨#[73, 70, 83]⟩, .string ⟨t0.toArray⟩, .bool s0, .bool e0, .bool f0]) ∧ Below W.heap.size W w') := Lib.hid fun W hW => rfind_any vL l a n c st ⟨#[73, 70, 83]⟩ t0 s0 e0 f0 W lo (own_below hL hW) hl hx
  have HS : Hid (splitL l = if s0 then t0 else [32, 9, 10]) := Lib.hid (by rw [splitL, hx])
  obtain ⟨va, vc, rfl⟩ := own_shape hL
  clear hx hn hL hE
  cases s0
  · rw [show splitL l = [32, 9, 10] from HS.out]
    clear HS
    go_enter Tryz.func39, Tryz.ntmps39
    go_wp2_with fail
    refine (CF.out _ ((Below.refl _ _).alloc (Nat.le_refl _) _)).mono ?_
    rintro e w1 ⟨rfl, hb1⟩
    have HB1 : Hid (Below w.heap.size w w1) := Lib.hid (((Below.refl _ _).alloc (Nat.le_refl _) _).trans (hb1.mono (by simp)))
    clear hb1
    go_wp2_with fail
    go_ret
    exact ⟨rfl, HB1.out.alloc HB1.out.size _⟩
  · rw [show splitL l = t0 from HS.out]
    clear HS
    go_enter Tryz.func39, Tryz.ntmps39
    go_wp2_with fail
    refine (CF.out _ ((Below.refl _ _).alloc (Nat.le_refl _) _)).mono ?_
    rintro e w1 ⟨rfl, hb1⟩
    have HB1 : Hid (Below w.heap.size w w1) := Lib.hid (((Below.refl _ _).alloc (Nat.le_refl _) _).trans (hb1.mono (by simp)))
    clear hb1
    go_wp2_with fail
    go_ret
    exact ⟨rfl, HB1.out.alloc HB1.out.size _⟩
end
end Go.Proofs.YthfnkgofkdahfaaGreatDoor
