/-
  The code's Best and the document's; the document's example.
-/
import Derived.Test.YtnofoenkeoabpaaDoorE9
namespace Go.Proofs.YtnofoenkeoabpaaDoor
open Go.RowKit

def intv (x : Int) : Value := .int .i64 x
theorem intGet {ws : List Int} {k : Nat} {x : Int} (h : ws[k]? = some x) : (ws.map intv)[k]? = some (.int .i64 x) := by rw [List.getElem?_map, h]; rfl
theorem cell_newF (w : World) (v : Value) (e : TypeId) : (w.alloc (.cells #[v] e)).cell? ⟨w.heap.size, 0, none⟩ = some v := by simp

set_option maxHeartbeats 1600000 in
theorem best_any (s : ByteArray) (a : Option Addr) (n cap : Nat) (ws : List Int) (w : World) (h : Elems w w.heap.size a n (ws.map intv)) (hs : s.size ≤ 2000) (hn20 : n ≤ 1000) :
    Calls Tryd.prog 8 #[.string s, .slice a n cap] w fun e w' => (∃ v, e = .returned v ∧ BestR ws (L s) v) ∧ Below w.heap.size w w' := by
  obtain ⟨b, off, hix, hB, hc⟩ := h.open (P := Tryd.prog) 37 3 Tryd.underlying37 (by kernel_rfl)
  have hn : ws.length = n := by have := h.1; simpa using this
  have HC := Lib.hid hc
  have HN := Lib.hid hn
  have CC := Lib.hid (fun way W => cost_any way s W hs)
  clear hc hn h
  go_enter Tryd.func8, Tryd.ntmps8
  go_wp2_with fail
  go_loopw [6, 12] (fun v i wr => ∃ (k : Nat) (rs : List Nat), k ≤ n ∧ i = .int .i64 k ∧ OwnF wr w.heap.size v rs ∧ CostsR (ws.take k) (L s) rs ∧ Below w.heap.size w wr) (fun _ i _ => n - (intOf i).toNat)
  case atStart => exact ⟨0, [], by omega, rfl, OwnF.nil _ _, costs_nil _, Below.refl _ _⟩
  case round =>
    obtain ⟨k, rs, hk, rfl, hown, hcr, hb⟩ := hrel
    obtain ⟨wo, rfl⟩ : ∃ wo : World, wo = wr := ⟨_, rfl⟩
    have HCR := Lib.hid hcr
    have hrl : rs.length = k := by rw [hcr.1, List.length_take, HN.out]; omega
    have hbs := hb.size
    clear hcr
    by_cases hlt : k < n
    · obtain ⟨way, hx⟩ : ∃ x, ws[k]? = some x := ⟨_, List.getElem?_eq_getElem (by rw [HN.out]; exact hlt)⟩
      have hbl : b < w.heap.size := by omega
      have hck : wo.cell? ⟨b, off + k, none⟩ = some (.int .i64 way) := (hb.cell (p := ⟨b, off + k, none⟩) hbl).trans ((HC.out k hlt).trans (intGet hx))
      have hbi : b < wo.heap.size := Nat.lt_of_lt_of_le hbl hb.size
      have ixk := fun w' => hix k cap w' hlt
      have HX := Lib.hid hx
      have HB := Lib.hid hb
      have HO := Lib.hid hown
      clear hx hb hown
      go_wp2_with fail
      refine (CC.out way _).mono ?_
      rintro e w1 ⟨⟨r, rfl, hr⟩, hb1⟩
      have HR := Lib.hid hr
      have hown1 := HO.out.below hb1
      have hbw1 := HB.out.trans (hb1.mono hbs)
      have hbs1 := hbw1.size
      clear hr hb1
      go_wp2_with (at_builtin; refine append_float rfl _ _ rfl rfl (OwnF.alloc hown1 _) r rfl (cell_newF _ _ _) (by omega) (Below.alloc hbw1 hbs1 _) (by simp; omega) ?_; intro v1 w2 hown2 hb2 hs2)
      go_roundw
      case rel => exact ⟨k + 1, rs ++ [r], by omega, by go_num, hown2, costs_snoc HCR.out HX.out HR.out, hb2⟩
      case measure => simp [intOf]; omega
    · have hkn : k = n := by omega
      have e : ws.take k = ws := List.take_of_length_le (by rw [HN.out]; omega)
      have HCR2 : Hid (CostsR ws (L s) rs) := Lib.hid (by rw [← e]; exact HCR.out)
      have HB := Lib.hid hb
      have HRL := Lib.hid hrl
      obtain ⟨a', cap', rfl, hel⟩ := hown.elems (by unfold maxLen; omega)
      obtain ⟨b', off', hix', hB', hc'⟩ := hel.open (P := Tryd.prog) 38 22 Tryd.underlying38 (by kernel_rfl)
      have CL := Lib.hid (least_any a' rs.length cap' rs wo hel HCR2.out.lt)
      have HC2 := Lib.hid hc'
      have HRN : Hid (rs.length = n) := Lib.hid (by omega)
      have hrb : rs.length ≤ 1000 := by omega
      have HWC : Hid (∀ (j : Nat) x, j < n → ws[j]? = some x → wo.cell? ⟨b, off + j, none⟩ = some (.int .i64 x) ∧ b < wo.heap.size) := Lib.hid fun j x hj hx => by
        have hbl : b < w.heap.size := by omega
        exact ⟨(HB.out.cell (p := ⟨b, off + j, none⟩) hbl).trans ((HC.out j hj).trans (intGet hx)), Nat.lt_of_lt_of_le hbl hbs⟩
      clear hown hel hc' hb e hkn hrl
      go_wp2_with fail
      refine CL.out.mono ?_
      rintro e w1 ⟨⟨i, rfl, hl⟩, rfl⟩
      have HL := Lib.hid hl
      rcases hl with ⟨e1, rfl⟩ | ⟨m, x, rfl, mx, _, _⟩
      · clear e1
        go_wp2_with fail
        go_ret2
        exact ⟨⟨_, rfl, rs, -1, HCR2.out, HL.out, rfl⟩, HB.out⟩
      · have hml : m < rs.length := (List.getElem?_eq_some_iff.1 mx).1
        have hcm := (HC2.out m hml).trans (floGet mx)
        have hbm := hB'.resolve_left (by omega)
        have ixm := fun w' => hix' m cap' w' hml
        obtain ⟨way, hway⟩ : ∃ x, ws[m]? = some x := ⟨_, List.getElem?_eq_getElem (by rw [HN.out, ← HRN.out]; exact hml)⟩
        obtain ⟨hcw, hbw⟩ := HWC.out m way (by rw [← HRN.out]; exact hml) hway
        have ixw := fun w' => hix m cap w' (by rw [← HRN.out]; exact hml)
        have CI := Lib.hid (isInf_any x)
        have CN := Lib.hid (isNaN_any x)
        have e1 : rs.getD (m : Int).toNat 0 = x := by simp [List.getD, mx]
        have e2 : ws.getD (m : Int).toNat 0 = way := by simp [List.getD, hway]
        have hv : bestV ws (L s) rs (m : Int) = if L s ≠ [] ∧ 5 ≤ clsN x then .tuple #[.int .i64 0, .int .i64 43] else .tuple #[.int .i64 way, .int .i64 0] := by
          unfold bestV
          rw [e1, e2, if_neg (by omega)]
        have hci := cls_inf x
        obtain ⟨p, hp⟩ : ∃ p, infB x = p := ⟨_, rfl⟩
        obtain ⟨q, hq⟩ : ∃ q, isn x = q := ⟨_, rfl⟩
        rw [hp] at CI hci
        rw [hq] at CN hci
        have HV := Lib.hid hv
        have HCI := Lib.hid hci
        clear e1 e2 hv hci hp hq mx hway
        have hi0 : ((m : Int) < 0) = False := by simp
        by_cases h0 : L s = []
        · have e0 : s.toList.isEmpty = true := by rw [toList_L, h0]; rfl
          have HE : Hid (L s = []) := Lib.hid h0
          clear h0
          cases p
          · cases q
            · skip
              go_wp2_with (first | (go_at_call 11; refine (CI.out _).mono ?_; rintro e W ⟨rfl, rfl⟩) | (go_at_call 10; refine (CN.out _).mono ?_; rintro e W ⟨rfl, rfl⟩))
              go_ret2
              exact ⟨⟨_, rfl, rs, m, HCR2.out, HL.out, by rw [HV.out]; first | (rw [if_pos ⟨HE.out, of_decide_eq_true HCI.out⟩]; rfl) | (rw [if_neg (fun h => absurd h.2 (of_decide_eq_false HCI.out))]; rfl) | (rw [if_neg (fun h => absurd HE.out h.1)]; rfl)⟩, HB.out⟩
            · skip
              go_wp2_with (first | (go_at_call 11; refine (CI.out _).mono ?_; rintro e W ⟨rfl, rfl⟩) | (go_at_call 10; refine (CN.out _).mono ?_; rintro e W ⟨rfl, rfl⟩))
              go_ret2
              exact ⟨⟨_, rfl, rs, m, HCR2.out, HL.out, by rw [HV.out]; first | (rw [if_pos ⟨HE.out, of_decide_eq_true HCI.out⟩]; rfl) | (rw [if_neg (fun h => absurd h.2 (of_decide_eq_false HCI.out))]; rfl) | (rw [if_neg (fun h => absurd HE.out h.1)]; rfl)⟩, HB.out⟩
          · cases q
            · skip
              go_wp2_with (first | (go_at_call 11; refine (CI.out _).mono ?_; rintro e W ⟨rfl, rfl⟩) | (go_at_call 10; refine (CN.out _).mono ?_; rintro e W ⟨rfl, rfl⟩))
              go_ret2
              exact ⟨⟨_, rfl, rs, m, HCR2.out, HL.out, by rw [HV.out]; first | (rw [if_pos ⟨HE.out, of_decide_eq_true HCI.out⟩]; rfl) | (rw [if_neg (fun h => absurd h.2 (of_decide_eq_false HCI.out))]; rfl) | (rw [if_neg (fun h => absurd HE.out h.1)]; rfl)⟩, HB.out⟩
            · skip
              go_wp2_with (first | (go_at_call 11; refine (CI.out _).mono ?_; rintro e W ⟨rfl, rfl⟩) | (go_at_call 10; refine (CN.out _).mono ?_; rintro e W ⟨rfl, rfl⟩))
              go_ret2
              exact ⟨⟨_, rfl, rs, m, HCR2.out, HL.out, by rw [HV.out]; first | (rw [if_pos ⟨HE.out, of_decide_eq_true HCI.out⟩]; rfl) | (rw [if_neg (fun h => absurd h.2 (of_decide_eq_false HCI.out))]; rfl) | (rw [if_neg (fun h => absurd HE.out h.1)]; rfl)⟩, HB.out⟩
        · have e0 : s.toList.isEmpty = false := by rw [toList_L]; simpa using h0
          have HE : Hid (L s ≠ []) := Lib.hid h0
          clear h0
          cases p
          · cases q
            · skip
              go_wp2_with (first | (go_at_call 11; refine (CI.out _).mono ?_; rintro e W ⟨rfl, rfl⟩) | (go_at_call 10; refine (CN.out _).mono ?_; rintro e W ⟨rfl, rfl⟩))
              go_ret2
              exact ⟨⟨_, rfl, rs, m, HCR2.out, HL.out, by rw [HV.out]; first | (rw [if_pos ⟨HE.out, of_decide_eq_true HCI.out⟩]; rfl) | (rw [if_neg (fun h => absurd h.2 (of_decide_eq_false HCI.out))]; rfl) | (rw [if_neg (fun h => absurd HE.out h.1)]; rfl)⟩, HB.out⟩
            · skip
              go_wp2_with (first | (go_at_call 11; refine (CI.out _).mono ?_; rintro e W ⟨rfl, rfl⟩) | (go_at_call 10; refine (CN.out _).mono ?_; rintro e W ⟨rfl, rfl⟩))
              go_ret2
              exact ⟨⟨_, rfl, rs, m, HCR2.out, HL.out, by rw [HV.out]; first | (rw [if_pos ⟨HE.out, of_decide_eq_true HCI.out⟩]; rfl) | (rw [if_neg (fun h => absurd h.2 (of_decide_eq_false HCI.out))]; rfl) | (rw [if_neg (fun h => absurd HE.out h.1)]; rfl)⟩, HB.out⟩
          · cases q
            · skip
              go_wp2_with (first | (go_at_call 11; refine (CI.out _).mono ?_; rintro e W ⟨rfl, rfl⟩) | (go_at_call 10; refine (CN.out _).mono ?_; rintro e W ⟨rfl, rfl⟩))
              go_ret2
              exact ⟨⟨_, rfl, rs, m, HCR2.out, HL.out, by rw [HV.out]; first | (rw [if_pos ⟨HE.out, of_decide_eq_true HCI.out⟩]; rfl) | (rw [if_neg (fun h => absurd h.2 (of_decide_eq_false HCI.out))]; rfl) | (rw [if_neg (fun h => absurd HE.out h.1)]; rfl)⟩, HB.out⟩
            · skip
              go_wp2_with (first | (go_at_call 11; refine (CI.out _).mono ?_; rintro e W ⟨rfl, rfl⟩) | (go_at_call 10; refine (CN.out _).mono ?_; rintro e W ⟨rfl, rfl⟩))
              go_ret2
              exact ⟨⟨_, rfl, rs, m, HCR2.out, HL.out, by rw [HV.out]; first | (rw [if_pos ⟨HE.out, of_decide_eq_true HCI.out⟩]; rfl) | (rw [if_neg (fun h => absurd h.2 (of_decide_eq_false HCI.out))]; rfl) | (rw [if_neg (fun h => absurd HE.out h.1)]; rfl)⟩, HB.out⟩
end Go.Proofs.YtnofoenkeoabpaaDoor
