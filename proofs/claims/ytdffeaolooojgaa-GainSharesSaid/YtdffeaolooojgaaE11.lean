/-
  The document's Best; the document's example.
-/
import Derived.Test.YtdffeaolooojgaaE10
namespace Go.Proofs.Ytdffeaolooojgaa
open Go.RowKit

set_option maxHeartbeats 1600000 in
theorem rbest_any (s : ByteArray) (a : Option Addr) (n cap : Nat) (ws : List Int) (w : World) (h : Elems w w.heap.size a n (ws.map intv)) (hs : s.size ≤ 2000) (hn20 : n ≤ 1000) :
    Calls Try.prog 16 #[.string s, .slice a n cap] w fun e w' => (∃ v, e = .returned v ∧ BestR ws (L s) v) ∧ Below w.heap.size w w' := by
  obtain ⟨b, off, hix, hB, hc⟩ := h.open (P := Try.prog) 29 3 Try.underlying29 (by kernel_rfl)
  have hn : ws.length = n := by have := h.1; simpa using this
  have HC := Lib.hid hc
  have HN := Lib.hid hn
  have CC := Lib.hid (fun way W => rcost_any way s W hs)
  clear hc hn h
  by_cases hz : n = 0
  · have HZ := Lib.hid (show ws = [] from List.length_eq_zero_iff.1 (by rw [HN.out]; exact hz))
    subst hz
    go_enter Try.func16, Try.ntmps16
    go_wp2_with fail
    go_ret2
    exact ⟨⟨_, rfl, [], -1, by rw [HZ.out]; exact costs_nil _, .inl ⟨rfl, rfl⟩, rfl⟩, Below.refl _ _⟩
  have hnz : ((n : Int) == 0) = false := by simp; omega
  go_enter Try.func16, Try.ntmps16
  go_wp2_with fail
  go_loopw [6, 7] (fun v i wr => ∃ (k : Nat) (rs : List Nat), k ≤ n ∧ i = .int .i64 k ∧ OwnF wr w.heap.size v rs ∧ CostsR (ws.take k) (L s) rs ∧ Below w.heap.size w wr) (fun _ i _ => n - (intOf i).toNat)
  case atStart => exact ⟨0, [], by omega, rfl, OwnF.nil _ _, costs_nil _, Below.refl _ _⟩
  case round =>
    obtain ⟨k, rs, hk, rfl, hown, hcr, hb⟩ := hrel
    obtain ⟨wo, rfl⟩ : ∃ wo : World, wo = wr := ⟨_, rfl⟩
    have HCR := Lib.hid hcr
    have hrl : rs.length = k := by rw [hcr.1, List.length_take, HN.out]; omega
    have hbs := hb.size
    clear hcr
    by_cases hlt : k < n
    · obtain ⟨way, hx⟩ : ∃ x, ws[k]? = some x := ⟨_, List.getElem?_eq_getElem (by rw [HN.out]; exact hlt)⟩
      have hbl : b < w.heap.size := by omega
      have hck : wo.cell? ⟨b, off + k, none⟩ = some (.int .i64 way) := (hb.cell (p := ⟨b, off + k, none⟩) hbl).trans ((HC.out k hlt).trans (intGet hx))
      have hbi : b < wo.heap.size := Nat.lt_of_lt_of_le hbl hb.size
      have ixk := fun w' => hix k cap w' hlt
      have HX := Lib.hid hx
      have HB := Lib.hid hb
      have HO := Lib.hid hown
      clear hx hb hown
      go_wp2_with fail
      refine (CC.out way _).mono ?_
      rintro e w1 ⟨⟨r, rfl, hr⟩, hb1⟩
      have HR := Lib.hid hr
      have hown1 := HO.out.below hb1
      have hbw1 := HB.out.trans (hb1.mono hbs)
      have hbs1 := hbw1.size
      clear hr hb1
      go_wp2_with (at_builtin; refine append_float rfl _ _ rfl rfl (OwnF.alloc hown1 _) r rfl (cell_newF _ _ _) (by omega) (Below.alloc hbw1 hbs1 _) (by simp; omega) ?_; intro v1 w2 hown2 hb2 hs2)
      go_roundw
      case rel => exact ⟨k + 1, rs ++ [r], by omega, by go_num, hown2, costs_snoc HCR.out HX.out HR.out, hb2⟩
      case measure => simp [intOf]; omega
    · have hkn : k = n := by omega
      have e : ws.take k = ws := List.take_of_length_le (by rw [HN.out]; omega)
      have HCR2 : Hid (CostsR ws (L s) rs) := Lib.hid (by rw [← e]; exact HCR.out)
      have HB := Lib.hid hb
      have HRL := Lib.hid hrl
      obtain ⟨a', cap', rfl, hel⟩ := hown.elems (by unfold maxLen; omega)
      obtain ⟨b', off', hix', hB', hc'⟩ := hel.open (P := Try.prog) 23 22 Try.underlying23 (by kernel_rfl)
      have CL := Lib.hid (rleast_any a' rs.length cap' rs wo hel HCR2.out.lt)
      have HC2 := Lib.hid hc'
      have HRN : Hid (rs.length = n) := Lib.hid (by omega)
      have hrb : rs.length ≤ 1000 := by omega
      have hr0 : 0 < rs.length := by omega
      have HWC : Hid (∀ (j : Nat) x, j < n → ws[j]? = some x → wo.cell? ⟨b, off + j, none⟩ = some (.int .i64 x) ∧ b < wo.heap.size) := Lib.hid fun j x hj hx => by
        have hbl : b < w.heap.size := by omega
        exact ⟨(HB.out.cell (p := ⟨b, off + j, none⟩) hbl).trans ((HC.out j hj).trans (intGet hx)), Nat.lt_of_lt_of_le hbl hbs⟩
      clear hown hel hc' hb e hkn hrl
      go_wp2_with fail
      refine CL.out.mono ?_
      rintro e w1 ⟨⟨i, rfl, hl⟩, hb1⟩
      have HL := Lib.hid hl
      have HB1 := Lib.hid hb1
      clear hb1
      rcases hl with ⟨e1, rfl⟩ | ⟨m, x, rfl, mx, _, _⟩
      · rw [e1] at hr0; simp at hr0
      · have hml : m < rs.length := (List.getElem?_eq_some_iff.1 mx).1
        have hbm0 := hB'.resolve_left (by omega)
        have hcm := (HB1.out.cell (p := ⟨b', off' + m, none⟩) hbm0).trans ((HC2.out m hml).trans (floGet mx))
        have hbm : b' < w1.heap.size := Nat.lt_of_lt_of_le hbm0 HB1.out.size
        have ixm := fun w' => hix' m cap' w' hml
        obtain ⟨way, hway⟩ : ∃ x, ws[m]? = some x := ⟨_, List.getElem?_eq_getElem (by rw [HN.out, ← HRN.out]; exact hml)⟩
        obtain ⟨hcw0, hbw0⟩ := HWC.out m way (by rw [← HRN.out]; exact hml) hway
        have hcw := (HB1.out.cell (p := ⟨b, off + m, none⟩) hbw0).trans hcw0
        have hbw : b < w1.heap.size := Nat.lt_of_lt_of_le hbw0 HB1.out.size
        have ixw := fun w' => hix m cap w' (by rw [← HRN.out]; exact hml)
        have CI := Lib.hid (class_any x)
        have e1 : rs.getD (m : Int).toNat 0 = x := by simp [List.getD, mx]
        have e2 : ws.getD (m : Int).toNat 0 = way := by simp [List.getD, hway]
        have hv : bestV ws (L s) rs (m : Int) = if L s ≠ [] ∧ 5 ≤ clsN x then .tuple #[.int .i64 0, .int .i64 43] else .tuple #[.int .i64 way, .int .i64 0] := by
          unfold bestV
          rw [e1, e2, if_neg (by omega)]
        obtain ⟨p, hp⟩ : ∃ p, clsN x = p := ⟨_, rfl⟩
        rw [hp] at CI hv
        have HV := Lib.hid hv
        have HBE := Lib.hid (HB.out.trans (HB1.out.mono HB.out.size))
        clear e1 e2 hv hp mx hway hcw0 hbw0 hbm0
        by_cases h0 : L s = []
        · have e0 : s.toList.isEmpty = true := by rw [toList_L, h0]; rfl
          have HE : Hid (L s = []) := Lib.hid h0
          clear h0
          by_cases h5 : 5 ≤ p
          · skip
            go_wp2_with (go_at_call 26; refine (CI.out _).mono ?_; rintro e W ⟨rfl, rfl⟩)
            go_ret2
            exact ⟨⟨_, rfl, rs, m, HCR2.out, HL.out, by rw [HV.out]; first | (rw [if_pos ⟨HE.out, h5⟩]; rfl) | (rw [if_neg (fun h => absurd h.2 h5)]; rfl) | (rw [if_neg (fun h => absurd HE.out h.1)]; rfl)⟩, HBE.out⟩
          · skip
            go_wp2_with (go_at_call 26; refine (CI.out _).mono ?_; rintro e W ⟨rfl, rfl⟩)
            go_ret2
            exact ⟨⟨_, rfl, rs, m, HCR2.out, HL.out, by rw [HV.out]; first | (rw [if_pos ⟨HE.out, h5⟩]; rfl) | (rw [if_neg (fun h => absurd h.2 h5)]; rfl) | (rw [if_neg (fun h => absurd HE.out h.1)]; rfl)⟩, HBE.out⟩
        · have e0 : s.toList.isEmpty = false := by rw [toList_L]; simpa using h0
          have HE : Hid (L s ≠ []) := Lib.hid h0
          clear h0
          by_cases h5 : 5 ≤ p
          · skip
            go_wp2_with (go_at_call 26; refine (CI.out _).mono ?_; rintro e W ⟨rfl, rfl⟩)
            go_ret2
            exact ⟨⟨_, rfl, rs, m, HCR2.out, HL.out, by rw [HV.out]; first | (rw [if_pos ⟨HE.out, h5⟩]; rfl) | (rw [if_neg (fun h => absurd h.2 h5)]; rfl) | (rw [if_neg (fun h => absurd HE.out h.1)]; rfl)⟩, HBE.out⟩
          · skip
            go_wp2_with (go_at_call 26; refine (CI.out _).mono ?_; rintro e W ⟨rfl, rfl⟩)
            go_ret2
            exact ⟨⟨_, rfl, rs, m, HCR2.out, HL.out, by rw [HV.out]; first | (rw [if_pos ⟨HE.out, h5⟩]; rfl) | (rw [if_neg (fun h => absurd h.2 h5)]; rfl) | (rw [if_neg (fun h => absurd HE.out h.1)]; rfl)⟩, HBE.out⟩

theorem quo60 : floatBits .quo .f64 (FI 6) (FI 0) = some PINF := by kernel_rfl
theorem quo00' : floatBits .quo .f64 (FI 0) (FI 0) = none := by kernel_rfl
theorem best_first : BestR [2, 3] [] (.tuple #[.int .i64 2, .int .i64 0]) := by
  refine ⟨[PINF, 9221120237041090561], 0, ⟨rfl, ?_⟩, .inr ⟨0, PINF, rfl, rfl, ?_, fun j y hj => by omega⟩, rfl⟩
  · intro k way r h1 h2
    match k, h1, h2 with
    | 0, h1, h2 =>
      simp at h1 h2
      subst h1 h2
      have e : nbB 2 [] = 6 := by
        show ((restL []).length : Int) = 6
        rw [restL_nil]; rfl
      exact ⟨by decide, .inr (.inr ⟨by rw [e]; omega, by decide, .inl (by rw [e]; exact quo60)⟩)⟩
    | 1, h1, h2 =>
      simp at h1 h2
      subst h1 h2
      have e : nbB 3 [] = 0 := rfl
      exact ⟨by decide, .inr (.inr ⟨by rw [e]; omega, by decide, .inr ⟨by rw [e]; exact quo00', by decide⟩⟩)⟩
    | k + 2, h1, h2 => simp at h1
  · intro j y h
    match j, h with
    | 0, h => simp at h; subst h; exact Nat.le_refl _
    | 1, h => simp at h; subst h; decide
    | j + 2, h => simp at h

set_option maxHeartbeats 800000 in
theorem anchor_any (w : World) : Calls Try.prog 7 #[] w fun e w' => e = .returned (.bool true) ∧ Below w.heap.size w w' := by
  have hel : Elems (w.alloc (.cells #[.int .i64 2, .int .i64 3] 3)) (w.alloc (.cells #[.int .i64 2, .int .i64 3] 3)).heap.size (some ⟨w.heap.size, 0, none⟩) 2 (([2, 3] : List Int).map intv) := by
    refine ⟨rfl, by decide, .inr ⟨w.heap.size, 0, rfl, by simp, fun i hi => ?_⟩⟩
    match i, hi with
    | 0, _ => simp [intv]
    | 1, _ => simp [intv]
  have CB := Lib.hid (best_any ⟨#[]⟩ _ 2 2 [2, 3] _ hel (by simp) (by omega))
  clear hel
  go_enter Try.func7, Try.ntmps7
  go_wp2_with fail
  refine CB.out.mono ?_
  rintro e w1 ⟨⟨v, rfl, hv⟩, hb⟩
  obtain rfl := hv.unique best_first
  have HB := Lib.hid (((Below.refl w.heap.size w).alloc (Nat.le_refl _) (.cells #[.int .i64 2, .int .i64 3] 3)).trans (hb.mono (by simp)))
  clear hb
  go_wp2_with fail
  go_ret
  exact ⟨rfl, HB.out⟩
end Go.Proofs.Ytdffeaolooojgaa
