/-
  The walk of Change, and of the anchor.
-/
import Derived.Test.YtbfplannbhafeaaDoorM5
namespace Go.Proofs.YtbfplannbhafeaaDoor
open Go.RowKit

theorem word_act (c : Who) (named : Bool) (s r : ByteArray) (m : Nat) (dir : Bool) (mask : Nat) (w : World) (hs : s.size ≤ 100000) (hm : m < 4096) (hk : mask < 4096) (hc : c = whoOf (L s)) (hn : named = namedOf (L s)) (hr : r = S ((L s).dropWhile isWho)) (R : Option Nat) (hR : clauseL dir mask (L s) m = R) :
    Calls Tryd.prog 22 #[.agg #[.int .i64 (c.own : Nat), .int .i64 (c.bes : Nat), .bool named], .string r, .int .i64 m, .bool dir, .int .i64 mask] w fun e w' => e = .returned (actV R) ∧ Below w.heap.size w w' := by
  have hrs : r.size ≤ s.size := by rw [hr, S_size]; have := dropWhile_le isWho (L s); rw [L_size] at this; exact this
  have hrl : L r = (L s).dropWhile isWho := by rw [hr, L_S]
  by_cases he : L r = []
  · have h1 : R = none := by rw [← hR, clauseL, if_pos (by rw [← hrl]; exact he)]
    rw [h1]
    exact act_nil c named r m dir mask w he
  · refine act_any c named r m dir mask w (by omega) hm hk he R ?_
    rw [← hR, clauseL, if_neg (by rw [← hrl]; exact he), hc, hn, hrl]

set_option maxHeartbeats 2000000 in
set_option maxRecDepth 100000 in
theorem change_any (s : ByteArray) (m : Nat) (dir : Bool) (mask : Nat) (w : World) (hs : s.size ≤ 100000) (hm : m < 4096) (hk : mask < 4096) (hv : Held w) :
    Calls Tryd.prog 9 #[.string s, .int .i64 m, .bool dir, .int .i64 mask] w fun e w' => e = .returned (resV (changeP dir mask (L s) m)) ∧ Below w.heap.size w w' := by
  cases e0 : s.toList.isEmpty with
  | true =>
    have hr : changeP dir mask (L s) m = (0, 11) := by rw [isEmpty_L] at e0; rw [changeP, if_pos (by simpa using e0)]
    rw [hr]
    clear hr
    go_enter Tryd.func9, Tryd.ntmps9
    go_wp2_with fail
    go_ret2
    exact ⟨rfl, Below.refl _ _⟩
  | false =>
    have hne : L s ≠ [] := by rw [isEmpty_L] at e0; simpa using e0
    have hpos : 0 < s.size := List.length_pos_iff.2 hne
    have i0 := run_idx (P := Tryd.prog) (k := .i64) Tryd.underlying9 s 0 0 rfl hpos
    have hch : changeP dir mask (L s) m = if 48 ≤ ((L s).getD 0 0).toNat ∧ ((L s).getD 0 0).toNat ≤ 57 then octalL (L s) 0 else partsV (partsL dir mask (sp 44 (L s)) m) := by rw [changeP, if_neg hne]
    obtain ⟨x, hx⟩ : ∃ x : Nat, x = ((L s).getD 0 0).toNat := ⟨_, rfl⟩
    rw [← hx] at i0 hch
    by_cases hdig : 48 ≤ x ∧ x ≤ 57
    · have HR : Hid (changeP dir mask (L s) m = octalL (L s) 0) := Lib.hid (by rw [hch, if_pos hdig])
      have C := Lib.hid (fun w => octal_any s w hs)
      rw [HR.out]
      obtain ⟨⟨a, b⟩, hab⟩ : ∃ ab, ab = octalL (L s) 0 := ⟨_, rfl⟩
      rw [← hab] at C
      rw [← hab]
      obtain ⟨d1, d2⟩ := hdig
      simp only [resV] at C
      clear hch hx hne hab
      go_enter Tryd.func9, Tryd.ntmps9
      go_wp2_with fail
      refine (C.out _).mono ?_
      rintro e w1 ⟨rfl, hb1⟩
      go_wp2_with fail
      go_ret2
      exact ⟨rfl, hb1⟩
    · rw [if_neg hdig] at hch
      have HCH := Lib.hid hch
      have CS := Lib.hid (split_any s 44 w hs hv)
      have hpl : ∀ p ∈ sp 44 (L s), p.length ≤ s.size := fun p hp => sp_sizes 44 (L s) p hp
      have HPL := Lib.hid hpl
      have HM := Lib.hid hm
      have k1 : x < 48 ∨ 57 < x := by omega
      clear hch hx hne hdig hpl hm
      rcases k1 with k1 | k1
      all_goals
        go_enter Tryd.func9, Tryd.ntmps9
        go_wp2_with fail
        refine CS.out.mono ?_
        rintro e w1 ⟨a, cap, xs, rfl, hxs, hE, hxl, hb1⟩
        obtain ⟨b1, o1, r1, hlt1, cc1⟩ := hE.open 38 9 Tryd.underlying38 (by kernel_rfl)
        have hxs2 : xs.map L = sp 44 (L s) := by rw [hxs, List.map_map, show (L ∘ S) = id from rfl, List.map_id]
        have HXS := Lib.hid hxs2
        have R1 := Lib.hid r1
        have CC1 := Lib.hid cc1
        have HLT1 := Lib.hid hlt1
        have hb1s := hb1.size
        clear hE r1 cc1 hlt1 hxs hxs2 i0
        go_wp2_with fail
        go_loopw [1, 33] (fun o i wr => ∃ k n : Nat, k ≤ xs.length ∧ i = .int .i64 k ∧ o = .int .i64 n ∧ n < 4096 ∧ partsL dir mask (sp 44 (L s)) m = partsL dir mask ((xs.drop k).map L) n ∧ Below w1.heap.size w1 wr) (fun _ i _ => xs.length - (intOf i).toNat)
        case atStart => exact ⟨0, m, Nat.zero_le _, rfl, rfl, HM.out, by rw [List.drop_zero, HXS.out], Below.refl _ _⟩
        case round =>
          obtain ⟨k, n, hk1, rfl, rfl, hn, hp, hbw⟩ := hrel
          have hbws := hbw.size
          have HN := Lib.hid hn
          clear hn
          by_cases hlt : k < xs.length
          · have j1 := fun w' => R1.out k cap w' hlt
            obtain ⟨y, hy⟩ : ∃ y, xs[k]? = some y := ⟨_, List.getElem?_eq_getElem hlt⟩
            have d1 : wr.cell? ⟨b1, o1 + k, none⟩ = some (.string y) := by rw [hbw.cell (p := ⟨b1, o1 + k, none⟩) (show b1 < w1.heap.size by have := HLT1.out; omega), CC1.out k hlt, List.getElem?_map, hy]; rfl
            have hys : y.size ≤ 100000 := by
              have := HPL.out (L y) (by rw [← HXS.out]; exact List.mem_map.2 ⟨y, List.mem_of_getElem? hy, rfl⟩)
              rw [L_size] at this; omega
            have hdr : xs.drop k = y :: xs.drop (k + 1) := by
              rw [List.drop_eq_getElem_cons hlt]
              congr 1
              rw [List.getElem?_eq_getElem hlt] at hy; exact Option.some.inj hy
            rw [hdr, List.map_cons] at hp
            obtain ⟨c, hc⟩ : ∃ c, c = whoOf (L y) := ⟨_, rfl⟩
            obtain ⟨nm, hnm⟩ : ∃ nm, nm = namedOf (L y) := ⟨_, rfl⟩
            obtain ⟨r, hr⟩ : ∃ r, r = S ((L y).dropWhile isWho) := ⟨_, rfl⟩
            obtain ⟨R, hR⟩ : ∃ R, clauseL dir mask (L y) n = R := ⟨_, rfl⟩
            have C1 := Lib.hid (who_any y wr hys)
            rw [← hc, ← hnm, ← hr] at C1
            have C2 := Lib.hid (fun w => word_act c nm y r n dir mask w hys HN.out hk hc hnm hr R hR)
            cases R with
            | none =>
              have HRES : Hid (changeP dir mask (L s) m = (0, 11)) := Lib.hid (by rw [HCH.out, hp, partsL_none hR]; rfl)
              simp only [actV] at C2
              clear hy hdr hp hc hnm hr hR
              go_wp2_with fail
              refine C1.out.mono ?_
              rintro e w2 ⟨rfl, hb2⟩
              have hb3 := hbw.trans (hb2.mono hbws)
              have hb3s := hb3.size
              go_wp2_with fail
              refine (C2.out _).mono ?_
              rintro e w3 ⟨rfl, hb4⟩
              have hb5 := (Below.alloc hb3 hb3s (.cells #[.int .i64 (c.own : Nat), .int .i64 (c.bes : Nat), .bool nm] 41))
              have hb6 := hb5.trans (hb4.mono hb5.size)
              go_wp2_with fail
              go_ret2
              exact ⟨by rw [HRES.out]; rfl, hb1.trans (hb6.mono hb1s)⟩
            | some q =>
              have HRES : Hid (partsL dir mask (sp 44 (L s)) m = partsL dir mask ((xs.drop (k + 1)).map L) q) := Lib.hid (by rw [hp, partsL_some hR])
              have HQ : Hid (q < 4096) := Lib.hid (clauseL_lt HN.out hR)
              simp only [actV] at C2
              clear hy hdr hp hc hnm hr hR
              go_wp2_with fail
              refine C1.out.mono ?_
              rintro e w2 ⟨rfl, hb2⟩
              have hb3 := hbw.trans (hb2.mono hbws)
              have hb3s := hb3.size
              go_wp2_with fail
              refine (C2.out _).mono ?_
              rintro e w3 ⟨rfl, hb4⟩
              have hb5 := (Below.alloc hb3 hb3s (.cells #[.int .i64 (c.own : Nat), .int .i64 (c.bes : Nat), .bool nm] 41))
              have hb6 := hb5.trans (hb4.mono hb5.size)
              go_wp2_with fail
              go_roundw
              case rel => exact ⟨k + 1, q, by omega, by go_num, rfl, HQ.out, HRES.out, hb6⟩
              case measure => simp [intOf]; omega
          · obtain rfl : k = xs.length := by omega
            have HRES : Hid (changeP dir mask (L s) m = (n, 0)) := Lib.hid (by rw [HCH.out, hp, List.drop_of_length_le (Nat.le_refl _)]; rfl)
            clear hp
            go_wp2_with fail
            go_ret2
            exact ⟨by rw [HRES.out]; rfl, hb1.trans (hbw.mono hb1s)⟩

theorem anchor_val : changeP false 0 [117, 43, 120, 44, 103, 111, 45, 119] 438 = (484, 0) := by
  have h1 : clauseL false 0 [117, 43, 120] 438 = some 502 := by
    rw [clauseL, if_neg (by decide)]
    show actL _ _ _ _ (43 :: [120]) _ = _
    rw [actL_yes (by decide)]
    show actL _ _ _ _ [] _ = _
    rw [actL_nil]
    decide +kernel
  have h2 : clauseL false 0 [103, 111, 45, 119] 502 = some 484 := by
    rw [clauseL, if_neg (by decide)]
    show actL _ _ _ _ (45 :: [119]) _ = _
    rw [actL_yes (by decide)]
    show actL _ _ _ _ [] _ = _
    rw [actL_nil]
    decide +kernel
  rw [changeP, if_neg (by decide), if_neg (by decide)]
  show partsV (partsL false 0 [[117, 43, 120], [103, 111, 45, 119]] 438) = _
  rw [partsL_some h1, partsL_some h2]
  rfl

theorem anchor_any (w : World) (hv : Held w) : Calls Tryd.prog 7 #[] w fun e w' => e = .returned (.bool true) ∧ Below w.heap.size w w' := by
  have C := Lib.hid (change_any ⟨#[117, 43, 120, 44, 103, 111, 45, 119]⟩ 438 false 0 w (by decide) (by decide) (by decide) hv)
  rw [show changeP false 0 (L ⟨#[117, 43, 120, 44, 103, 111, 45, 119]⟩) 438 = (484, 0) from anchor_val] at C
  simp only [resV] at C
  clear hv
  go_enter Tryd.func7, Tryd.ntmps7
  go_wp2_with fail
  refine C.out.mono ?_
  rintro e w1 ⟨rfl, hb⟩
  go_wp2_with fail
  go_ret
  exact ⟨rfl, hb⟩

theorem right_any (m : Int) (w : World) (b : Bool) (hb : b = (decide (0 ≤ m) && decide (m ≤ 4095))) :
    Calls Tryd.prog 8 #[.int .i64 m] w fun e w' => e = .returned (.bool b) ∧ w = w' := by
  subst hb
  by_cases h0 : 0 ≤ m
  all_goals
    go_enter Tryd.func8, Tryd.ntmps8
    go_wp2_with fail
    go_ret
    exact ⟨ret_bool (by simp [h0]; try omega), rfl⟩
end Go.Proofs.YtbfplannbhafeaaDoor
