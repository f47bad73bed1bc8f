/-
  v[:k] of a slice.
-/
import Derived.Test.YtmlgmedapbeleaaGreatDoorW6
import Derived.Test.YtmlgmedapbeleaaGreatDoorW1
set_option linter.unusedVariables false
set_option linter.unusedSimpArgs false
/-
  The walk of Check: the program's.
-/
namespace Go.Proofs.YtmlgmedapbeleaaGreatDoor
open Go.RowKit

def CkPost (l : List It) (w : World) (e : Ending) (w' : World) : Prop := ∃ (r : Int) (i : Nat), Chk l r i ∧ e = .returned (.tuple #[.int .i64 r, .int .i64 (i : Int)]) ∧ Below w.heap.size w w'

set_option maxHeartbeats 4000000 in
theorem check_any (l : List It) (v : Value) (w : World) (hv : Held w) (hl : Tr w w.heap.size v l) (h30 : l.length ≤ 30) (hz : ∀ x ∈ l, x.p.size ≤ 20000 ∧ x.d.size ≤ 20000 ∧ x.s.size ≤ 20000) :
    Calls Tryz.prog 10 #[v] w (CkPost l w) := by
  obtain ⟨a, cap, rfl, hm⟩ := tr_shape hl
  obtain ⟨n, hn⟩ : ∃ n, n = l.length := ⟨_, rfl⟩
  rw [← hn] at hm h30
  have HL := Lib.hid hl
  have HN := Lib.hid hn
  have HZ := Lib.hid hz
  have HV := Lib.hid hv
  clear hl hz hv
  rw [← hn]
  clear hn
  have hmm := @run_makeMap Tryz.prog
  by_cases h0 : n = 0
  · have HC : Hid (Chk l 12 0) := Lib.hid (.inl ⟨List.length_eq_zero_iff.1 (HN.out.symm.trans h0), rfl, rfl⟩)
    subst h0
    go_enter Tryz.func10, Tryz.ntmps10
    go_wp2
    go_ret2
    exact ⟨12, 0, HC.out, rfl, Below.refl _ _⟩
  · have hn0 : ((n : Int) == 0) = false := by rw [beq_eq_false_iff_ne]; omega
    have HNE : Hid (l ≠ []) := Lib.hid (fun e => h0 (by rw [HN.out, e]; rfl))
    clear h0
    go_enter Tryz.func10, Tryz.ntmps10
    go_wp2_with fail
    go_loopw [22] (fun i wr => ∃ k : Nat, k ≤ n ∧ i = .int .i64 k ∧ okTo l k ∧ Ck wr w.heap.size (w.heap.size + 2) w.heap.size (w.heap.size + 1) (l.take k) ∧ Below w.heap.size w wr ∧ w.heap.size + 2 < wr.heap.size) (fun i _ => n - (intOf i).toNat)
    case atStart =>
      refine ⟨0, Nat.zero_le _, rfl, fun i hi => by omega, ⟨?_, ?_, ?_, by omega, by omega⟩, by go_grown, by simp⟩
      · have := Blk.new ((w.alloc (.map #[] 0)).alloc (.map #[] 0)) 69 #[.map (some w.heap.size), .map (some (w.heap.size + 1)), .string ⟨#[]⟩]
        simp at this
        exact this
      · exact ((MapS.made w).alloc _).alloc _
      · have := (MapS.made (w.alloc (.map #[] 0))).alloc (.cells #[.map (some w.heap.size), .map (some (w.heap.size + 1)), .string ⟨#[]⟩] 69)
        simp at this
        exact this
    case round =>
      obtain ⟨k, hk, rfl, hok, hck, hb, hgl⟩ := hrel
      obtain ⟨wo, rfl⟩ : ∃ wo : World, wo = wr := ⟨_, rfl⟩
      by_cases hlt : k < n
      · obtain ⟨x, hx⟩ : ∃ x, l[k]? = some x := ⟨_, List.getElem?_eq_getElem (by rw [← HN.out]; exact hlt)⟩
        obtain ⟨b1, o1, i1, hb1, c1⟩ := it_at (HL.out.below hb) 23 34 Tryz.underlying23 (by kernel_rfl) hx (k : Int) rfl
        obtain ⟨c2, c3, c4, c5, c6⟩ := c1
        rw [← HN.out] at i1
        have hb1' : b1 < wo.heap.size := by omega
        obtain ⟨z1, z2, z3⟩ := HZ.out x (List.mem_of_getElem? hx)
        have HE := Lib.hid (addE_itE hx hok)
        have HT := Lib.hid (take_snoc' hx)
        have CA : Hid (∀ W, Below wo.heap.size wo W → Calls Tryz.prog 21 #[.pointer (some ⟨w.heap.size + 2, 0, none⟩), itV x] W (AddPost (l.take k) x w.heap.size (w.heap.size + 2) w.heap.size (w.heap.size + 1) W (itE l k))) := Lib.hid fun W hW => by
          rw [← HE.out]
          exact add_any _ _ _ _ _ _ W (HV.out.below HV.out.2 (hb.trans (hW.mono hb.size))) (hck.below hW) (by rw [List.length_take]; omega) z1 z2 z3
        obtain ⟨p, kk, m, d, s⟩ := x
        simp only at c2 c3 c4 c5 c6
        obtain ⟨r, hr⟩ : ∃ r, r = itE l k := ⟨_, rfl⟩
        rw [← hr] at CA
        have HOK := Lib.hid hok
        have HR := Lib.hid hr
        have HB := Lib.hid hb
        unfold itV at CA
        clear hx hok hck hb hr
        go_wp2_with fail
        refine (CA.out _ (by go_grown)).mono ?_
        rintro e w2 ⟨rfl, hb2, hck2⟩
        by_cases hr0 : r = 0
        · subst hr0
          have HCK := Lib.hid (hck2 rfl)
          have HB2 := Lib.hid hb2
          clear hb2 hck2
          go_wp2_with fail
          go_roundw
          case rel =>
            have h1 := HB.out
            have h2 := HB.out.size
            have h3 := HB2.out.size
            refine ⟨k + 1, by omega, by go_num, okTo_succ HOK.out HR.out.symm, by rw [HT.out]; exact HCK.out, Below.trans (show Below w.heap.size w _ from by go_grown) HB2.out, ?_⟩
            exact HCK.out.blk.lt
          case measure => simp [intOf]; omega
        · have hne : (r != 0) = true := by simpa using hr0
          have HC : Hid (Chk l r k) := Lib.hid (.inr (.inr ⟨by rw [← HN.out]; exact hlt, HOK.out, HR.out, hr0⟩))
          have HB2 := Lib.hid hb2
          clear hb2 hck2 hr0
          go_wp2_with fail
          go_ret2
          have h1 := HB.out
          have h2 := HB.out.size
          exact ⟨r, k, HC.out, rfl, Below.trans (show Below w.heap.size w _ from by go_grown) HB2.out⟩
      · obtain rfl : k = n := by omega
        have HC : Hid (Chk l 0 0) := Lib.hid (.inr (.inl ⟨HNE.out, by rw [← HN.out]; exact hok, rfl, rfl⟩))
        have HB := Lib.hid hb
        clear hck hok hb
        go_wp2_with fail
        go_ret2
        exact ⟨0, 0, HC.out, rfl, HB.out⟩
end Go.Proofs.YtmlgmedapbeleaaGreatDoor
namespace Go.Proofs.YtmlgmedapbeleaaGreatDoor
open Go.RowKit

theorem Sl.to {P : Program} {w : World} {B size n : Nat} {v : Value} {xs : List Value} (h : Sl w B size v n xs) (T E : Nat) (hT : P.underlying T = some (.slice E)) (hs : (P.info? E).map (·.size) = some size) {k : Nat} (hk : k ≤ n) :
    ∃ v', (∀ (w' : World), (Instr.slice T v none (some (.int .i64 (k : Int))) none).run P w' = .ok v' w') ∧ Sl w B size v' k (xs.take (k * size)) := by
  obtain ⟨h1, a, cap, rfl, h3, h4, h5⟩ := h
  have he : P.elem T = E := by simp [Program.elem, hT]
  obtain ⟨i, hi, hi1⟩ := Option.map_eq_some_iff.1 hs
  refine ⟨sliced a 0 k cap size, fun w' => ?_, ?_⟩
  · rw [run_slice_h w' T a n cap (by rw [he]; exact hT) .i64 k (by omega) (by omega), he]
    simp [sizeOf, typeInfo, hi, hi1, Result.andThen]
  · have hks : k * size ≤ n * size := Nat.mul_le_mul_right _ hk
    refine ⟨by rw [List.length_take, h1]; omega, _, _, by rw [sliced, Nat.sub_zero, Nat.sub_zero], by omega, by omega, ?_⟩
    rcases h5 with h5 | ⟨b, off, rfl, hB, hc⟩
    · exact .inl (by omega)
    · refine .inr ⟨b, off, ?_, hB, fun j hj => ?_⟩
      · split
        · rfl
        · rw [Option.map_some, addr_add, Nat.zero_mul, Nat.add_zero]
      · rw [hc j (by omega), List.getElem?_take_of_lt hj]
end Go.Proofs.YtmlgmedapbeleaaGreatDoor
