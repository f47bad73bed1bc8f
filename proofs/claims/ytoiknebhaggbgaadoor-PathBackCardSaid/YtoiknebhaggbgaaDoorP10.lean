/-
  The walk of the statement PathBack.
-/
import Derived.Test.YtoiknebhaggbgaaDoorP9
namespace Go.Proofs.YtoiknebhaggbgaaDoor
open Go.RowKit

set_option maxRecDepth 100000 in
set_option maxHeartbeats 4000000 in
theorem back_any (s : ByteArray) (w : World) (hs0 : s.size ≤ maxLen) (hv : Held w) :
    Calls Tryd.prog 6 #[.string s] w fun e w' => e = .returned (.bool true) ∧ Below w.heap.size w w' := by
  unfold maxLen at hs0
  have w0pos := hv.2
  by_cases hs1 : s.size ≤ 5000
  · have hs : s.size ≤ 100000 := by omega
    obtain ⟨p, hp⟩ : ∃ p, p = plainB s := ⟨_, rfl⟩
    have CP := Lib.hid (fun w => refPlain_any s w hs)
    rw [← hp] at CP
    have HV := Lib.hid hv
    clear hv
    cases p with
    | false =>
      clear hp
      go_enter Tryd.func6, Tryd.ntmps6
      go_wp2_with fail
      refine (anchor_any _).mono ?_
      rintro e w1 ⟨rfl, rfl⟩
      go_wp2_with fail
      refine (CP.out _).mono ?_
      rintro e w2 ⟨rfl, hb1⟩
      go_wp2_with fail
      go_ret
      exact ⟨rfl, hb1⟩
    | true =>
      obtain ⟨d, hd⟩ : ∃ d, d = S (dirL (L s)) := ⟨_, rfl⟩
      obtain ⟨b, hb⟩ : ∃ b, b = S (baseL (L s)) := ⟨_, rfl⟩
      obtain ⟨xs, hxs⟩ : ∃ xs, xs = aboveTo s s.size := ⟨_, rfl⟩
      obtain ⟨ps, hps⟩ : ∃ ps, ps = partsS s := ⟨_, rfl⟩
      have C1 := Lib.hid (fun w => dir_any s w hs)
      have C2 := Lib.hid (fun w => base_any s w hs)
      have C3 := Lib.hid (fun w => above_any s w hs)
      have C4 := Lib.hid (fun w hv => parts_any s w hs hv)
      rw [← hd] at C1
      rw [← hb] at C2
      rw [← hxs] at C3
      rw [← hps] at C4
      have hxl : xs.length ≤ 5000 := by have := aboveTo_len s s.size; rw [hxs]; omega
      by_cases hdot : dirL (L s) = [46]
      · obtain ⟨l1, l2⟩ := back_dot hp.symm hdot
        have ed : (d.toList == [46]) = true := by rw [hd, hdot, toList_S]; rfl
        have eb : b = s := by rw [hb, l1, S_L]
        have ex : xs = [] := by rw [hxs, l2]
        subst eb ex
        clear hd hb hxs hps hdot l1 l2 hp C4
        go_enter Tryd.func6, Tryd.ntmps6
        go_wp2_with fail
        refine (anchor_any _).mono ?_
        rintro e w1 ⟨rfl, rfl⟩
        go_wp2_with fail
        refine (CP.out _).mono ?_
        rintro e w2 ⟨rfl, hb1⟩
        go_wp2_with fail
        refine (C1.out _).mono ?_
        rintro e w3 ⟨rfl, rfl⟩
        go_wp2_with fail
        refine (C2.out _).mono ?_
        rintro e w4 ⟨rfl, rfl⟩
        go_wp2_with fail
        refine (C3.out _).mono ?_
        rintro e w5 ⟨v, rfl, hown, hb2⟩
        have hb3 := hb1.trans (hb2.mono hb1.size)
        obtain ⟨a1, c1, rfl, hE1⟩ := hown.elems (by unfold maxLen; omega)
        clear hown hE1
        go_wp2_with fail
        go_ret
        exact ⟨ret_bool (by simp), hb3⟩
      · obtain ⟨l1, l2, l3, l4, l5⟩ := back_law hp.symm hdot
        have ed : (d.toList == [46]) = false := by rw [hd, toList_S]; simpa using hdot
        have hds : d.size ≤ 100000 := by
          rw [← hxs, ← hd] at l5
          have := l1 (xs.length - 1) d (by rw [← hxs]; exact l5)
          omega
        have hbs : b.size ≤ 100000 := by
          rw [hb, S_size, baseL]
          have := bareL_len (L s)
          rw [L_size] at this
          split
          · simp
          · rw [List.length_drop]; omega
        have C5 := Lib.hid (fun w => join_any d b w hds hbs)
        have hj : S (joinL (L d) (L b)) = s := by rw [hd, hb, L_S, L_S, l2, S_L]
        rw [hj] at C5
        rw [← hxs] at l1 l3 l4 l5
        rw [← hps] at l3
        rw [← hd] at l5
        have L1 := Lib.hid l1
        have L5 := Lib.hid l5
        have hpl : (ps.length : Int) = (xs.length : Int) + 1 := by omega
        have hpm : ps.length ≤ 5001 := by omega
        have HPL := Lib.hid hpl
        clear hd hb hxs hps hdot l1 l2 l3 l5 hj hp hpl
        go_enter Tryd.func6, Tryd.ntmps6
        go_wp2_with fail
        refine (anchor_any _).mono ?_
        rintro e w1 ⟨rfl, rfl⟩
        go_wp2_with fail
        refine (CP.out _).mono ?_
        rintro e w2 ⟨rfl, hb1⟩
        go_wp2_with fail
        refine (C1.out _).mono ?_
        rintro e w3 ⟨rfl, rfl⟩
        go_wp2_with fail
        refine (C3.out _).mono ?_
        rintro e w5 ⟨v, rfl, hown, hb2⟩
        have hb3 := hb1.trans (hb2.mono hb1.size)
        have hb3s := hb3.size
        obtain ⟨a1, c1, rfl, hE⟩ := hown.elems (by unfold maxLen; omega)
        clear hown hb1 hb2
        obtain ⟨b1, o1, r1, hlt1, cc1⟩ := hE.open 28 9 Tryd.underlying28 (by kernel_rfl)
        have R1 := Lib.hid r1
        have CC1 := Lib.hid cc1
        have HLT1 := Lib.hid (show b1 < w5.heap.size by omega)
        clear hE r1 cc1 hlt1
        go_wp2_with fail
        go_loopw [35] (fun i wr => ∃ (k : Nat), k ≤ xs.length ∧ i = .int .i64 k ∧ Below w5.heap.size w5 wr) (fun i _ => xs.length - (intOf i).toNat)
        case atStart => exact ⟨0, Nat.zero_le _, rfl, Below.refl _ _⟩
        case round =>
          obtain ⟨k, hk, rfl, hbw⟩ := hrel
          have hbws := hbw.size
          by_cases hlt : k < xs.length
          · have j1 := fun w' => R1.out k c1 w' hlt
            obtain ⟨x, hx⟩ : ∃ x, xs[k]? = some x := ⟨_, List.getElem?_eq_getElem hlt⟩
            have d1 : wr.cell? ⟨b1, o1 + k, none⟩ = some (.string x) := by rw [hbw.cell (p := ⟨b1, o1 + k, none⟩) HLT1.out, CC1.out k hlt, List.getElem?_map, hx]; rfl
            obtain ⟨m1, m2, m3, m4⟩ := L1.out k x hx
            have U1 := Lib.hid (fun w => under_any s x w)
            have P1 := Lib.hid (fun w hv => plain_any x w (by omega) hv)
            rw [m1] at U1
            rw [m2] at P1
            have M4 := Lib.hid m4
            clear m1 m2 m3 m4 hx
            by_cases hk0 : 0 < k
            · obtain ⟨y, hy⟩ : ∃ y, xs[k - 1]? = some y := ⟨_, List.getElem?_eq_getElem (by omega)⟩
              have U2 := Lib.hid (fun w => under_any x y w)
              rw [M4.out y hk0 hy] at U2
              have j2 := fun w' => R1.out (k - 1) c1 w' (by omega)
              rw [show (((k - 1 : Nat)) : Int) = (k : Int) - 1 by omega] at j2
              have d2 : ∀ wz, Below w5.heap.size w5 wz → wz.cell? ⟨b1, o1 + (k - 1), none⟩ = some (.string y) := fun wz hz => by rw [hz.cell (p := ⟨b1, o1 + (k - 1), none⟩) HLT1.out, CC1.out (k - 1) (by omega), List.getElem?_map, hy]; rfl
              have D2 := Lib.hid d2
              clear hy d2
              go_wp2_with fail
              refine (U1.out _).mono ?_
              rintro e w6 ⟨rfl, rfl⟩
              go_wp2_with fail
              refine (P1.out _ (HV.out.below w0pos (hb3.trans (hbw.mono hb3s)))).mono ?_
              rintro e w7 ⟨rfl, hb4⟩
              have hb5 := hbw.trans (hb4.mono hbws)
              have d2 := D2.out w7 hb5
              go_wp2_with fail
              refine (U2.out _).mono ?_
              rintro e w8 ⟨rfl, rfl⟩
              go_wp2_with fail
              go_roundw
              case rel => exact ⟨k + 1, by omega, by go_num, hb5⟩
              case measure => simp [intOf]; omega
            · go_wp2_with fail
              refine (U1.out _).mono ?_
              rintro e w6 ⟨rfl, rfl⟩
              go_wp2_with fail
              refine (P1.out _ (HV.out.below w0pos (hb3.trans (hbw.mono hb3s)))).mono ?_
              rintro e w7 ⟨rfl, hb4⟩
              have hb5 := hbw.trans (hb4.mono hbws)
              go_wp2_with fail
              go_roundw
              case rel => exact ⟨k + 1, by omega, by go_num, hb5⟩
              case measure => simp [intOf]; omega
          · obtain rfl : k = xs.length := by omega
            have j1 := fun w' => R1.out (xs.length - 1) c1 w' (by omega)
            rw [show (((xs.length - 1 : Nat)) : Int) = (xs.length : Int) - 1 by omega] at j1
            have d2 : ∀ wz, Below w5.heap.size w5 wz → wz.cell? ⟨b1, o1 + (xs.length - 1), none⟩ = some (.string d) := fun wz hz => by rw [hz.cell (p := ⟨b1, o1 + (xs.length - 1), none⟩) HLT1.out, CC1.out (xs.length - 1) (by omega), List.getElem?_map, L5.out]; rfl
            have D2 := Lib.hid d2
            clear d2
            go_wp2_with fail
            refine (C2.out _).mono ?_
            rintro e w6 ⟨rfl, rfl⟩
            go_wp2_with fail
            refine (C5.out _).mono ?_
            rintro e w6 ⟨rfl, rfl⟩
            go_wp2_with fail
            refine (C4.out _ (HV.out.below w0pos (hb3.trans (hbw.mono hb3s)))).mono ?_
            rintro e w7 ⟨v, rfl, hown, hb4⟩
            have hb5 := hbw.trans (hb4.mono hbws)
            have d2 := D2.out w7 hb5
            obtain ⟨a2, c2, rfl, hE2⟩ := hown.elems (by unfold maxLen; omega)
            have htest : ((xs.length : Int) == (ps.length : Int) - 1) = true := by rw [HPL.out, beq_iff_eq]; omega
            clear hown hE2
            go_wp2_with fail
            go_ret
            exact ⟨ret_bool (by simp), hb3.trans (hb5.mono hb3s)⟩
  · go_enter Tryd.func6, Tryd.ntmps6
    go_wp2_with fail
    refine (anchor_any _).mono ?_
    rintro e w1 ⟨rfl, rfl⟩
    go_wp2_with fail
    go_ret
    exact ⟨rfl, Below.refl _ _⟩
end Go.Proofs.YtoiknebhaggbgaaDoor
