/-
  The walk of the statement PathKinds.
-/
import Derived.Test.YtoiknebhaggbgaaDoorP7
namespace Go.Proofs.YtoiknebhaggbgaaDoor
open Go.RowKit

set_option maxRecDepth 100000 in
set_option maxHeartbeats 4000000 in
theorem kinds_any (s : ByteArray) (w : World) (hs0 : s.size ≤ maxLen) (hv : Held w) :
    Calls Tryd.prog 5 #[.string s] w fun e w' => e = .returned (.bool true) ∧ Below w.heap.size w w' := by
  unfold maxLen at hs0
  have w0pos := hv.2
  by_cases hs1 : s.size ≤ 5000
  · have hs : s.size ≤ 100000 := by omega
    obtain ⟨n, hn⟩ : ∃ n, n = nameB (L s) := ⟨_, rfl⟩
    obtain ⟨r, hr⟩ : ∃ r, r = rightB (L s) := ⟨_, rfl⟩
    obtain ⟨p, hp⟩ : ∃ p, p = plainB s := ⟨_, rfl⟩
    obtain ⟨xs, hxs⟩ : ∃ xs, xs = partsS s := ⟨_, rfl⟩
    have hlen : xs.length ≤ maxLen := by
      rw [hxs, partsS]
      have h1 := partsTo_len (piecesS s) (piecesS s).length
      have h2 := (piecesTo_spec s s.size).2.1
      have h3 : (piecesS s).length = (piecesTo s s.size).1.length + 1 := by rw [piecesS, List.length_append]; rfl
      unfold maxLen; omega
    have C1 := Lib.hid (fun w => name_any s w hs)
    have C2 := Lib.hid (fun w => refName_any s w hs)
    have C3 := Lib.hid (fun w => right_any s w (by unfold maxLen; omega))
    have C4 := Lib.hid (fun w => refRight_any s w (by unfold maxLen; omega))
    have C5 := Lib.hid (fun w hv => plain_any s w hs hv)
    have C6 := Lib.hid (fun w => refPlain_any s w hs)
    have C7 := Lib.hid (fun w hv => parts_any s w hs hv)
    have C8 := Lib.hid (fun w => refParts_any s w hs)
    rw [← hn] at C1 C2
    rw [← hr] at C3 C4
    rw [← hp] at C5 C6
    rw [← hxs] at C7 C8
    have HV := Lib.hid hv
    have HLEN := Lib.hid hlen
    clear hn hr hp hxs hlen hv
    cases e0 : s.toList.isEmpty with
    | true =>
      have hb : false = (!s.toList.isEmpty && ((L s).getD 0 0 == 47)) := by rw [e0]; rfl
      have CA := Lib.hid (fun w => abs_any s false w hb)
      clear hb
      go_enter Tryd.func5, Tryd.ntmps5
      go_wp2_with fail
      refine (anchor_any _).mono ?_
      rintro e w1 ⟨rfl, rfl⟩
      go_wp2_with fail
      refine (C1.out _).mono ?_
      rintro e w1 ⟨rfl, rfl⟩
      go_wp2_with fail
      refine (C2.out _).mono ?_
      rintro e w1 ⟨rfl, rfl⟩
      go_wp2_with fail
      refine (C3.out _).mono ?_
      rintro e w1 ⟨rfl, rfl⟩
      go_wp2_with fail
      refine (C4.out _).mono ?_
      rintro e w1 ⟨rfl, rfl⟩
      go_wp2_with fail
      refine (C5.out _ HV.out).mono ?_
      rintro e w2 ⟨rfl, hb1⟩
      go_wp2_with fail
      refine (C6.out _).mono ?_
      rintro e w3 ⟨rfl, hb2⟩
      have hb3 := hb1.trans (hb2.mono hb1.size)
      clear hb1 hb2
      go_wp2_with fail
      refine (CA.out _).mono ?_
      rintro e w4 ⟨rfl, rfl⟩
      go_wp2_with fail
      refine (C7.out _ (HV.out.below w0pos hb3)).mono ?_
      rintro e w5 ⟨v, rfl, hown, hb4⟩
      obtain ⟨a1, c1, rfl, hE1⟩ := hown.elems HLEN.out
      have hb5 := hb3.trans (hb4.mono hb3.size)
      clear hown hb3 hb4
      go_wp2_with fail
      refine (C8.out _).mono ?_
      rintro e w6 ⟨v, rfl, hown, hb6⟩
      obtain ⟨a2, c2, rfl, hE2⟩ := hown.elems HLEN.out
      have hb7 := hb5.trans (hb6.mono hb5.size)
      have C9 := Lib.hid (same_any a1 a2 _ c1 c2 xs w6 w6.heap.size ((hE1.below hb6).mono hb6.size) hE2)
      clear hown hE1 hE2 hb5 hb6
      go_wp2_with fail
      refine C9.out.mono ?_
      rintro e w7 ⟨rfl, hb8⟩
      have hb9 := hb7.trans (hb8.mono hb7.size)
      clear hb7 hb8
      go_wp2_with fail
      go_ret
      exact ⟨ret_bool (by simp), hb9⟩
    | false =>
      have hpos : 0 < s.size := by
        rw [isEmpty_L] at e0
        have h1 : L s ≠ [] := by simpa using e0
        exact List.length_pos_iff.2 h1
      have i0 := run_idx (P := Tryd.prog) (k := .i64) Tryd.underlying9 s 0 0 rfl hpos
      have hb0 : (!s.toList.isEmpty && ((L s).getD 0 0 == 47)) = ((L s).getD 0 0 == 47) := by rw [e0]; rfl
      by_cases h47 : (L s).getD 0 0 = 47
      · have hb : true = (!s.toList.isEmpty && ((L s).getD 0 0 == 47)) := by rw [hb0, h47]; rfl
        have et := eq47 h47
        obtain ⟨c, hc⟩ : ∃ c, c = (L s).getD 0 0 := ⟨_, rfl⟩
        rw [← hc] at i0 et
        clear h47 hb0 hc
        have CA := Lib.hid (fun w => abs_any s true w hb)
        clear hb
        go_enter Tryd.func5, Tryd.ntmps5
        go_wp2_with fail
        refine (anchor_any _).mono ?_
        rintro e w1 ⟨rfl, rfl⟩
        go_wp2_with fail
        refine (C1.out _).mono ?_
        rintro e w1 ⟨rfl, rfl⟩
        go_wp2_with fail
        refine (C2.out _).mono ?_
        rintro e w1 ⟨rfl, rfl⟩
        go_wp2_with fail
        refine (C3.out _).mono ?_
        rintro e w1 ⟨rfl, rfl⟩
        go_wp2_with fail
        refine (C4.out _).mono ?_
        rintro e w1 ⟨rfl, rfl⟩
        go_wp2_with fail
        refine (C5.out _ HV.out).mono ?_
        rintro e w2 ⟨rfl, hb1⟩
        go_wp2_with fail
        refine (C6.out _).mono ?_
        rintro e w3 ⟨rfl, hb2⟩
        have hb3 := hb1.trans (hb2.mono hb1.size)
        clear hb1 hb2
        go_wp2_with fail
        refine (CA.out _).mono ?_
        rintro e w4 ⟨rfl, rfl⟩
        go_wp2_with fail
        refine (C7.out _ (HV.out.below w0pos hb3)).mono ?_
        rintro e w5 ⟨v, rfl, hown, hb4⟩
        obtain ⟨a1, c1, rfl, hE1⟩ := hown.elems HLEN.out
        have hb5 := hb3.trans (hb4.mono hb3.size)
        clear hown hb3 hb4
        go_wp2_with fail
        refine (C8.out _).mono ?_
        rintro e w6 ⟨v, rfl, hown, hb6⟩
        obtain ⟨a2, c2, rfl, hE2⟩ := hown.elems HLEN.out
        have hb7 := hb5.trans (hb6.mono hb5.size)
        have C9 := Lib.hid (same_any a1 a2 _ c1 c2 xs w6 w6.heap.size ((hE1.below hb6).mono hb6.size) hE2)
        clear hown hE1 hE2 hb5 hb6
        go_wp2_with fail
        refine C9.out.mono ?_
        rintro e w7 ⟨rfl, hb8⟩
        have hb9 := hb7.trans (hb8.mono hb7.size)
        clear hb7 hb8
        go_wp2_with fail
        go_ret
        exact ⟨ret_bool (by simp), hb9⟩
      · have hb : false = (!s.toList.isEmpty && ((L s).getD 0 0 == 47)) := by rw [hb0]; exact (beq_eq_false_iff_ne.2 h47).symm
        have et := ne47 h47
        obtain ⟨c, hc⟩ : ∃ c, c = (L s).getD 0 0 := ⟨_, rfl⟩
        rw [← hc] at i0 et
        clear h47 hb0 hc
        have CA := Lib.hid (fun w => abs_any s false w hb)
        clear hb
        go_enter Tryd.func5, Tryd.ntmps5
        go_wp2_with fail
        refine (anchor_any _).mono ?_
        rintro e w1 ⟨rfl, rfl⟩
        go_wp2_with fail
        refine (C1.out _).mono ?_
        rintro e w1 ⟨rfl, rfl⟩
        go_wp2_with fail
        refine (C2.out _).mono ?_
        rintro e w1 ⟨rfl, rfl⟩
        go_wp2_with fail
        refine (C3.out _).mono ?_
        rintro e w1 ⟨rfl, rfl⟩
        go_wp2_with fail
        refine (C4.out _).mono ?_
        rintro e w1 ⟨rfl, rfl⟩
        go_wp2_with fail
        refine (C5.out _ HV.out).mono ?_
        rintro e w2 ⟨rfl, hb1⟩
        go_wp2_with fail
        refine (C6.out _).mono ?_
        rintro e w3 ⟨rfl, hb2⟩
        have hb3 := hb1.trans (hb2.mono hb1.size)
        clear hb1 hb2
        go_wp2_with fail
        refine (CA.out _).mono ?_
        rintro e w4 ⟨rfl, rfl⟩
        go_wp2_with fail
        refine (C7.out _ (HV.out.below w0pos hb3)).mono ?_
        rintro e w5 ⟨v, rfl, hown, hb4⟩
        obtain ⟨a1, c1, rfl, hE1⟩ := hown.elems HLEN.out
        have hb5 := hb3.trans (hb4.mono hb3.size)
        clear hown hb3 hb4
        go_wp2_with fail
        refine (C8.out _).mono ?_
        rintro e w6 ⟨v, rfl, hown, hb6⟩
        obtain ⟨a2, c2, rfl, hE2⟩ := hown.elems HLEN.out
        have hb7 := hb5.trans (hb6.mono hb5.size)
        have C9 := Lib.hid (same_any a1 a2 _ c1 c2 xs w6 w6.heap.size ((hE1.below hb6).mono hb6.size) hE2)
        clear hown hE1 hE2 hb5 hb6
        go_wp2_with fail
        refine C9.out.mono ?_
        rintro e w7 ⟨rfl, hb8⟩
        have hb9 := hb7.trans (hb8.mono hb7.size)
        clear hb7 hb8
        go_wp2_with fail
        go_ret
        exact ⟨ret_bool (by simp), hb9⟩
  · go_enter Tryd.func5, Tryd.ntmps5
    go_wp2_with fail
    refine (anchor_any _).mono ?_
    rintro e w1 ⟨rfl, rfl⟩
    go_wp2_with fail
    go_ret
    exact ⟨rfl, Below.refl _ _⟩
end Go.Proofs.YtoiknebhaggbgaaDoor
