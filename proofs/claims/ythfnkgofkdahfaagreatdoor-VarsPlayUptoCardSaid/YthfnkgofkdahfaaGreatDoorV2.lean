/-
  The walks of Shift and Args.
-/
import Derived.Test.YthfnkgofkdahfaaGreatDoorV1
namespace Go.Proofs.YthfnkgofkdahfaaGreatDoor
open Go.RowKit

def Ptr (g : Nat) : Value := .pointer (some ⟨g, 0, none⟩)

set_option maxHeartbeats 1000000 in
theorem args_any (g : Nat) (ss : List ByteArray) (w : World) (B : Nat) (h : VAt w B g ss) (hn : ss.length ≤ 1000) :
    Calls Tryz.prog 36 #[.pointer (some ⟨g, 0, none⟩)] w fun e w' => ∃ a c, e = .returned (.slice a ss.length c) ∧ Elems w' w'.heap.size a ss.length (ss.map .string) ∧ Below w.heap.size w w' := by
  obtain ⟨m, v, st, h1, h2, h3⟩ := h
  obtain ⟨a, c, rfl, hE⟩ := h2.elems (by unfold maxLen; omega)
  have CC : Hid (Calls Tryz.prog 12 #[.slice a ss.length c] w fun e w' => ∃ v', e = .returned v' ∧ OwnS w' w.heap.size v' ss ∧ Below w.heap.size w w') := Lib.hid (clone_any a _ c ss w _ hE hn)
  have g2 := h1.cell 2
  simp at g2
  clear h1 h2 h3 hE
  go_enter Tryz.func36, Tryz.ntmps36
  go_wp2_with fail
  refine CC.out.mono ?_
  rintro e w1 ⟨v', rfl, ho, hb1⟩
  obtain ⟨a', c', rfl, hE'⟩ := ho.elems (by unfold maxLen; omega)
  go_wp2
  go_ret
  exact ⟨_, _, rfl, hE', hb1⟩

set_option maxHeartbeats 1000000 in
theorem shift_bad (g : Nat) (ss : List ByteArray) (k : Int) (w : World) (B : Nat) (h : VAt w B g ss) (hn : ss.length ≤ 1000) (hk : (ss.length : Int) < k) :
    Calls Tryz.prog 24 #[.pointer (some ⟨g, 0, none⟩), .int .i64 k] w fun e w' => e = .returned (.int .i64 10) ∧ w = w' := by
  obtain ⟨m, v, st, h1, h2, h3⟩ := h
  obtain ⟨a, c, rfl, hE⟩ := h2.elems (by unfold maxLen; omega)
  have g2 := h1.cell 2
  simp at g2
  clear h1 h2 h3 hE
  go_enter Tryz.func24, Tryz.ntmps24
  go_wp2
  go_ret
  exact ⟨rfl, rfl⟩

set_option maxHeartbeats 1000000 in
theorem shift_any (g : Nat) (ss : List ByteArray) (k : Nat) (w : World) (B B' : Nat) (h : VAt w B g ss) (hBg : B' ≤ g) (hn : ss.length ≤ 1000) (hk : k ≤ ss.length) :
    Calls Tryz.prog 24 #[.pointer (some ⟨g, 0, none⟩), .int .i64 (k : Int)] w fun e w' => e = .returned (.int .i64 0) ∧ VAt w' w.heap.size g (ss.drop k) ∧ Below B' w w' ∧ ∀ b, b < w.heap.size → b ≠ g → w'.heap[b]? = w.heap[b]? := by
  obtain ⟨m, v, st, h1, h2, h3⟩ := h
  have hlg := h1.lt
  obtain ⟨v2, hv2, hsl⟩ := (Sl.of_own h2).cut (P := Tryz.prog) 22 9 Tryz.underlying22 (by kernel_rfl) hk
  obtain ⟨a2, c2, rfl, hE2⟩ := sl_elems hsl
  obtain ⟨a, c, rfl, hE⟩ := h2.elems (by unfold maxLen; omega)
  have hd : (ss.map Value.string).drop (k * 1) = (ss.drop k).map Value.string := by rw [Nat.mul_one, List.map_drop]
  rw [hd] at hE2
  have CC : Hid (Calls Tryz.prog 12 #[.slice a2 (ss.length - k) c2] w fun e w' => ∃ v', e = .returned v' ∧ OwnS w' w.heap.size v' (ss.drop k) ∧ Below w.heap.size w w') := Lib.hid (clone_any a2 _ c2 _ w _ hE2 (by omega))
  have g2 := h1.cell 2
  simp at g2
  have HBK := Lib.hid h1
  clear h1 h2 h3 hE hE2 hd hsl
  go_enter Tryz.func24, Tryz.ntmps24
  go_wp2_with fail
  refine CC.out.mono ?_
  rintro e w1 ⟨v', rfl, ho, hb1⟩
  have HBK1 := Lib.hid (HBK.out.below hb1 hlg)
  have y2 := HBK1.out.cell 2
  have z2 := HBK1.out.free 2
  simp at y2
  have HO := Lib.hid ho
  have HB1 := Lib.hid hb1
  have HNE : Hid (v'.ownBlock ≠ some g) := Lib.hid (own_ne ho hlg)
  obtain ⟨va, vc, hv'⟩ := own_shape ho
  rw [List.length_drop] at hv'
  subst hv'
  clear ho hb1
  go_wp2
  go_ret
  refine ⟨rfl, ⟨m, _, st, HBK1.out.put 2 _, ?_, HNE.out⟩, (HB1.out.mono (by omega)).setCell hBg _, fun b hb hne => ?_⟩
  · have := own_far HO.out (p := ⟨g, 2, none⟩) hlg (.slice va (ss.length - k) vc)
    rw [← List.length_drop (i := k) (l := ss)]
    rw [← List.length_drop (i := k) (l := ss)] at this
    exact this
  · rw [Below.heap_setCell _ _ _ _ hne]
    exact HB1.out.block b hb
end Go.Proofs.YthfnkgofkdahfaaGreatDoor
