/-
  split: the walk.
-/
import Derived.Test.YtlehofcgkmhgaaaF5
namespace Go.Proofs.Ytlehofcgkmhgaaa
open Go.RowKit

theorem SpAt.due {w : World} {g : Nat} {wh ot : ByteArray} {s : St} (h : SpAt w g wh ot s) (b : Bool) : SpAt (w.setCell ⟨g, 5, none⟩ (.bool b)) g wh ot ⟨s.out, s.now, s.op, b⟩ := by
  obtain ⟨vo, vn, fv, h1, h2⟩ := h
  exact ⟨vo, vn, fv, h1.set rfl rfl rfl, h2⟩
theorem SpAt.facts {w : World} {g : Nat} {wh ot : ByteArray} {s : St} (h : SpAt w g wh ot s) : g < w.heap.size ∧ w.cell? ⟨g, 4, none⟩ = some (.bool s.op) ∧ w.cell? ⟨g, 5, none⟩ = some (.bool s.due) ∧ w.frozen? ⟨g, 5, none⟩ = false := by
  obtain ⟨vo, vn, fv, h1, h2⟩ := h
  obtain ⟨⟨c0, c1, c2, c3, c4, c5⟩, f2, f3, f4, f5⟩ := h1.cells
  exact ⟨h1.blk.lt, c4, c5, f5⟩
theorem FitS.step {s : St} {m : Nat} {ifs : List UInt8} {c : UInt8} (h : FitS s (m + 1)) (hc : hasB ifs c = true) : FitS (stepB ifs s c) m := by
  refine h.clear (cnt_step _ _ _) ?_
  unfold stepB
  rw [hc]
  simp only [if_true]
  split
  · split
    · exact .inl rfl
    · exact .inr rfl
  · split
    · exact .inr rfl
    · exact .inl rfl

set_option maxHeartbeats 4000000 in
set_option maxRecDepth 100000 in
theorem split_any (ifs : List UInt8) (s : St) (t : ByteArray) (g : Nat) (w : World) (h : SpAt w g (S (whL ifs)) (S (otL ifs)) s) (hf : FitS s t.size) :
    Calls Try.prog 17 #[.pointer (some ⟨g, 0, none⟩), .string t] w fun e w' => e = .returned (.tuple #[]) ∧ SpAt w' g (S (whL ifs)) (S (otL ifs)) ((L t).foldl (stepB ifs) s) ∧ Below g w w' := by
  obtain ⟨R, hR⟩ : ∃ R, R = (L t).foldl (stepB ifs) s := ⟨_, rfl⟩
  rw [← hR]
  have HH := Lib.hid h
  have HF := Lib.hid hf
  have HR := Lib.hid hR
  clear h hf hR
  go_enter Try.func17, Try.ntmps17
  go_wp2_with fail
  go_loopw [1] (fun rv wr => ∃ (r : ByteArray) (cur : St), rv = .string r ∧ SpAt wr g (S (whL ifs)) (S (otL ifs)) cur ∧ FitS cur r.size ∧ (L r).foldl (stepB ifs) cur = R ∧ Below g w wr) (fun rv _ => match rv with | .string r => r.size | _ => 0)
  case atStart => exact ⟨t, s, rfl, HH.out, HF.out, HR.out.symm, Below.refl _ _⟩
  case round =>
    obtain ⟨r, cur, rfl, hsp, hfit, hres, hb⟩ := hrel
    have hrs : r.size ≤ 1000000 := by have := hfit.2.2; omega
    have HFIT := Lib.hid hfit
    have HRES := Lib.hid hres
    have HB := Lib.hid hb
    have HSP := Lib.hid hsp
    clear hsp hfit hres hb
    obtain ⟨wo, rfl⟩ : ∃ wo : World, wo = wr := ⟨_, rfl⟩
    cases e0 : r.toList.isEmpty with
    | true =>
      have hl : L r = [] := by rw [isEmpty_L] at e0; simpa using e0
      have hcur : cur = R := by have := HRES.out; rw [hl] at this; exact this
      subst hcur
      go_wp2
      refine bodyPost_end (v := .tuple #[]) ?_ rfl ?_
      · simp [results, Try.results17, go_sem]
      exact ⟨rfl, HSP.out, HB.out⟩
    | false =>
      have hpos : 0 < r.size := by
        rw [isEmpty_L] at e0
        have h1 : L r ≠ [] := by simpa using e0
        exact List.length_pos_iff.2 h1
      go_wp2_with fail
      go_loopw [4] (fun nv wi => ∃ k : Nat, nv = .int .i64 k ∧ k ≤ r.size ∧ (∀ c ∈ (L r).take k, hasB ifs c = false) ∧ SpAt wi g (S (whL ifs)) (S (otL ifs)) cur ∧ Below g w wi) (fun nv _ => r.size - (intOf nv).toNat)
      case atStart => exact ⟨0, rfl, Nat.zero_le _, by simp, HSP.out, HB.out⟩
      case round =>
        obtain ⟨k, rfl, hk, hall, hsp2, hb2⟩ := hrel
        obtain ⟨wi, rfl⟩ : ∃ wi : World, wi = wr := ⟨_, rfl⟩
        have HALL := Lib.hid hall
        have HSP2 := Lib.hid hsp2
        have HB2 := Lib.hid hb2
        clear hall hsp2 hb2
        obtain ⟨vo, vn, fv, hsp, hout⟩ := HSP2.out
        have hg := hsp.blk.lt
        obtain ⟨⟨c0, c1, c2, c3, c4, c5⟩, f2, f3, f4, f5⟩ := hsp.cells
        clear hsp hout c2 c3 f2 f3 f4
        -- the bytes before k are put
        by_cases hlt : k < r.size
        · have hidx := run_idx (P := Try.prog) Try.underlying9 r (k := .i64) (k : Int) k rfl hlt
          have htk := take_snoc (show k < (L r).length from hlt)
          obtain ⟨c, hc⟩ : ∃ c, c = (L r).getD k 0 := ⟨_, rfl⟩
          rw [← hc] at hidx htk
          obtain ⟨v1, hv1, d1⟩ := ib_any (whL ifs) c
          obtain ⟨v2, hv2, d2⟩ := ib_any (otL ifs) c
          rw [wh_has] at d1
          rw [ot_has] at d2
          have IB1 : Hid (∀ W, Calls Try.prog 22 #[.string (S (whL ifs)), .int .u8 ((c.toNat : Nat) : Int)] W fun e w' => e = .returned (.int .i64 v1) ∧ w' = W) := Lib.hid fun W => by
            rw [← hv1]
            simpa [S] using Try.strings_IndexByte (S (whL ifs)) ((c.toNat : Nat) : Int) W
          have IB2 : Hid (∀ W, Calls Try.prog 22 #[.string (S (otL ifs)), .int .u8 ((c.toNat : Nat) : Int)] W fun e w' => e = .returned (.int .i64 v2) ∧ w' = W) := Lib.hid fun W => by
            rw [← hv2]
            simpa [S] using Try.strings_IndexByte (S (otL ifs)) ((c.toNat : Nat) : Int) W
          have HTK := Lib.hid htk
          have HC := Lib.hid hc
          obtain ⟨p, hp⟩ : ∃ p, p = S (whL ifs) := ⟨_, rfl⟩
          obtain ⟨q, hq⟩ : ∃ q, q = S (otL ifs) := ⟨_, rfl⟩
          clear htk hv1 hv2 hc hp hq
          cases hh : hasB ifs c with
          | false =>
            rw [hh] at d1 d2
            simp only [Bool.false_and, Bool.not_false] at d1 d2
            have HA2 : Hid (∀ x ∈ (L r).take (k + 1), hasB ifs x = false) := Lib.hid (by
              rw [HTK.out]
              intro x hx
              rcases List.mem_append.1 hx with hx | hx
              · exact HALL.out x hx
              · simp at hx; subst hx; exact hh)
            clear hh
            go_wp2_with fail
            go_quiet ((go_at_call 22; with_reducible first | exact Calls.quiet_of_same (IB1.out _) | exact Calls.quiet_of_same (IB2.out _)))
            go_wp2
            go_roundw
            case rel => exact ⟨k + 1, by go_num, by omega, HA2.out, HSP2.out.below (below_drewN (Below.refl _ _) nq), below_drewN HB2.out nq⟩
            case measure => simp [intOf]; omega
          | true =>
            rw [hh] at d1 d2
            have HHH := Lib.hid hh
            cases hw : isW c with
            | true =>
              rw [hw] at d1 d2
              simp only [Bool.and_true, Bool.not_true, Bool.not_false, Bool.and_false] at d1 d2
              have d3 : decide (0 ≤ v1) = true := by have := of_decide_eq_false d1; exact decide_eq_true (by omega)
              by_cases hk0 : 0 < k
              · clear hh hw
                go_wp2_with fail
                go_quiet ((go_at_call 22; with_reducible first | exact Calls.quiet_of_same (IB1.out _) | exact Calls.quiet_of_same (IB2.out _)))
                have hx0 : r.extract 0 k = S ((L r).take k) := S_extract_to r k
                have hx1 : r.extract k r.size = S ((L r).drop k) := S_extract_from r k
                have hz0 : (S ((L r).take k)).size = k := by rw [S_size, List.length_take, L_size]; omega
                have hz1 : (S ((L r).drop k)).size = r.size - k := by rw [S_size, List.length_drop, L_size]
                have hne : (L r).take k ≠ [] := fun e => by rw [e] at hz0; rw [S_size] at hz0; simp at hz0; omega
                have hfold : ((L r).drop k).foldl (stepB ifs) (putS cur (S ((L r).take k)) false) = R := by
                  rw [← HRES.out, ← fold_plain ifs _ cur hne HALL.out, ← List.foldl_append, List.take_append_drop]
                have hfit2 : FitS (putS cur (S ((L r).take k)) false) (r.size - k) := FitS.put (HFIT.out.less (by omega)) (by omega)
                have HX0 := Lib.hid hx0
                have HFOLD := Lib.hid hfold
                have HFIT2 := Lib.hid hfit2
                have CPUT : Hid (∀ W, SpAt W g (S (whL ifs)) (S (otL ifs)) cur → Calls Try.prog 16 #[.pointer (some ⟨g, 0, none⟩), .string (r.extract 0 k), .bool false] W fun e w' => e = .returned (.tuple #[]) ∧ SpAt w' g (S (whL ifs)) (S (otL ifs)) (putS cur (S ((L r).take k)) false) ∧ Below g W w') := Lib.hid fun W hW => by
                  rw [HX0.out]
                  exact put_any cur _ false g _ _ W hW HFIT.out.len.1 (fun p hp => by have := HFIT.out.1 p hp; omega)
                have HX1 := Lib.hid hx1
                have HZ1 := Lib.hid hz1
                clear hx0 hx1 hz0 hz1 hne hfold hfit2
                go_wp2_with fail
                refine (CPUT.out _ (HSP2.out.below (below_drewN (Below.refl _ _) nq))).mono ?_
                rintro e w2 ⟨rfl, hsp3, hb3⟩
                have HB3 := Lib.hid ((below_drewN HB2.out nq).trans hb3)
                have HSP3 := Lib.hid hsp3
                clear hsp3 hb3
                go_wp2_with fail
                go_roundw
                case rel => exact ⟨r.extract k r.size, _, rfl, HSP3.out, by rw [HX1.out, HZ1.out]; exact HFIT2.out, by rw [HX1.out, L_S]; exact HFOLD.out, HB3.out⟩
                case measure => simp; omega
              · skip
                obtain rfl : k = 0 := by omega
                have i0 := run_idx (P := Try.prog) Try.underlying9 r (k := .i64) 0 0 rfl hpos
                rw [← HC.out] at i0
                have hx1 : r.extract 1 r.size = S ((L r).drop 1) := S_extract_from r 1
                have hz1 : (S ((L r).drop 1)).size = r.size - 1 := by rw [S_size, List.length_drop, L_size]
                have hd0 := drop_getD (L r) (show 0 < (L r).length from hpos)
                rw [List.drop_zero, ← HC.out] at hd0
                have HFOLD : Hid (((L r).drop 1).foldl (stepB ifs) (stepB ifs cur c) = R) := Lib.hid (by rw [← HRES.out, hd0]; rfl)
                have HFIT2 : Hid (FitS (stepB ifs cur c) (r.size - 1)) := Lib.hid (FitS.step (by rw [show r.size - 1 + 1 = r.size by omega]; exact HFIT.out) HHH.out)
                have HX1 := Lib.hid hx1
                have HZ1 := Lib.hid hz1
                clear hx1 hz1 hd0
                cases hop : cur.op with
                | true =>
                  have CE : Hid (∀ W, SpAt W g (S (whL ifs)) (S (otL ifs)) cur → Calls Try.prog 15 #[.pointer (some ⟨g, 0, none⟩), .bool false] W fun e w' => e = .returned (.tuple #[]) ∧ SpAt w' g (S (whL ifs)) (S (otL ifs)) (endS cur false) ∧ Below g W w') := Lib.hid fun W hW => end_any cur false g _ _ W hW HFIT.out.len.2
                  have HST : Hid (stepB ifs cur c = ⟨(endS cur false).out, (endS cur false).now, (endS cur false).op, true⟩) := Lib.hid (by rw [stepB, hh, hw, hop]; simp [endS, hop])
                  rw [hop] at c4
                  clear hh hw hop
                  go_wp2_with fail
                  go_quiet ((go_at_call 22; with_reducible first | exact Calls.quiet_of_same (IB1.out _) | exact Calls.quiet_of_same (IB2.out _)))
                  go_wp2_with (go_at_call 22; with_reducible refine (IB1.out _).mono ?_; rintro e w' ⟨rfl, rfl⟩)
                  refine (CE.out _ (HSP2.out.below (below_drewN (Below.refl _ _) nq))).mono ?_
                  rintro e w2 ⟨rfl, hsp3, hb3⟩
                  have HB3 := Lib.hid ((below_drewN HB2.out nq).trans hb3)
                  have HSP3 := Lib.hid (hsp3.due true)
                  obtain ⟨hg3, g4, g5, g6⟩ := hsp3.facts
                  clear hsp3 hb3
                  go_wp2
                  rw [HST.out] at HFIT2 HFOLD
                  go_roundw
                  case rel => exact ⟨r.extract 1 r.size, _, rfl, HSP3.out, by rw [HX1.out, HZ1.out]; exact HFIT2.out, by rw [HX1.out, L_S]; exact HFOLD.out, HB3.out.setCell (Nat.le_refl _) _⟩
                  case measure => simp; omega
                | false =>
                  have HST : Hid (stepB ifs cur c = cur) := Lib.hid (by rw [stepB, hh, hw, hop]; rfl)
                  rw [hop] at c4
                  clear hh hw hop
                  go_wp2_with fail
                  go_quiet ((go_at_call 22; with_reducible first | exact Calls.quiet_of_same (IB1.out _) | exact Calls.quiet_of_same (IB2.out _)))
                  go_wp2_with (go_at_call 22; with_reducible refine (IB1.out _).mono ?_; rintro e w' ⟨rfl, rfl⟩)
                  rw [HST.out] at HFIT2 HFOLD
                  go_roundw
                  case rel => exact ⟨r.extract 1 r.size, _, rfl, (HSP2.out.below (below_drewN (Below.refl _ _) nq)), by rw [HX1.out, HZ1.out]; exact HFIT2.out, by rw [HX1.out, L_S]; exact HFOLD.out, below_drewN HB2.out nq⟩
                  case measure => simp; omega
            | false =>
              rw [hw] at d1 d2
              simp only [Bool.and_true, Bool.not_true, Bool.not_false, Bool.and_false] at d1 d2
              have d3 : decide (0 ≤ v1) = false := by have := of_decide_eq_true d1; exact decide_eq_false (by omega)
              by_cases hk0 : 0 < k
              · clear hh hw
                go_wp2_with fail
                go_quiet ((go_at_call 22; with_reducible first | exact Calls.quiet_of_same (IB1.out _) | exact Calls.quiet_of_same (IB2.out _)))
                have hx0 : r.extract 0 k = S ((L r).take k) := S_extract_to r k
                have hx1 : r.extract k r.size = S ((L r).drop k) := S_extract_from r k
                have hz0 : (S ((L r).take k)).size = k := by rw [S_size, List.length_take, L_size]; omega
                have hz1 : (S ((L r).drop k)).size = r.size - k := by rw [S_size, List.length_drop, L_size]
                have hne : (L r).take k ≠ [] := fun e => by rw [e] at hz0; rw [S_size] at hz0; simp at hz0; omega
                have hfold : ((L r).drop k).foldl (stepB ifs) (putS cur (S ((L r).take k)) false) = R := by
                  rw [← HRES.out, ← fold_plain ifs _ cur hne HALL.out, ← List.foldl_append, List.take_append_drop]
                have hfit2 : FitS (putS cur (S ((L r).take k)) false) (r.size - k) := FitS.put (HFIT.out.less (by omega)) (by omega)
                have HX0 := Lib.hid hx0
                have HFOLD := Lib.hid hfold
                have HFIT2 := Lib.hid hfit2
                have CPUT : Hid (∀ W, SpAt W g (S (whL ifs)) (S (otL ifs)) cur → Calls Try.prog 16 #[.pointer (some ⟨g, 0, none⟩), .string (r.extract 0 k), .bool false] W fun e w' => e = .returned (.tuple #[]) ∧ SpAt w' g (S (whL ifs)) (S (otL ifs)) (putS cur (S ((L r).take k)) false) ∧ Below g W w') := Lib.hid fun W hW => by
                  rw [HX0.out]
                  exact put_any cur _ false g _ _ W hW HFIT.out.len.1 (fun p hp => by have := HFIT.out.1 p hp; omega)
                have HX1 := Lib.hid hx1
                have HZ1 := Lib.hid hz1
                clear hx0 hx1 hz0 hz1 hne hfold hfit2
                go_wp2_with fail
                refine (CPUT.out _ (HSP2.out.below (below_drewN (Below.refl _ _) nq))).mono ?_
                rintro e w2 ⟨rfl, hsp3, hb3⟩
                have HB3 := Lib.hid ((below_drewN HB2.out nq).trans hb3)
                have HSP3 := Lib.hid hsp3
                clear hsp3 hb3
                go_wp2_with fail
                go_roundw
                case rel => exact ⟨r.extract k r.size, _, rfl, HSP3.out, by rw [HX1.out, HZ1.out]; exact HFIT2.out, by rw [HX1.out, L_S]; exact HFOLD.out, HB3.out⟩
                case measure => simp; omega
              · skip
                obtain rfl : k = 0 := by omega
                have i0 := run_idx (P := Try.prog) Try.underlying9 r (k := .i64) 0 0 rfl hpos
                rw [← HC.out] at i0
                have hx1 : r.extract 1 r.size = S ((L r).drop 1) := S_extract_from r 1
                have hz1 : (S ((L r).drop 1)).size = r.size - 1 := by rw [S_size, List.length_drop, L_size]
                have hd0 := drop_getD (L r) (show 0 < (L r).length from hpos)
                rw [List.drop_zero, ← HC.out] at hd0
                have HFOLD : Hid (((L r).drop 1).foldl (stepB ifs) (stepB ifs cur c) = R) := Lib.hid (by rw [← HRES.out, hd0]; rfl)
                have HFIT2 : Hid (FitS (stepB ifs cur c) (r.size - 1)) := Lib.hid (FitS.step (by rw [show r.size - 1 + 1 = r.size by omega]; exact HFIT.out) HHH.out)
                have HX1 := Lib.hid hx1
                have HZ1 := Lib.hid hz1
                clear hx1 hz1 hd0
                cases hdu : cur.due with
                | true =>
                  have HST : Hid (stepB ifs cur c = ⟨cur.out, cur.now, cur.op, false⟩) := Lib.hid (by rw [stepB, hh, hw, hdu]; rfl)
                  rw [hdu] at c5
                  clear hh hw hdu
                  go_wp2_with fail
                  go_quiet ((go_at_call 22; with_reducible first | exact Calls.quiet_of_same (IB1.out _) | exact Calls.quiet_of_same (IB2.out _)))
                  go_wp2_with (go_at_call 22; with_reducible refine (IB1.out _).mono ?_; rintro e w' ⟨rfl, rfl⟩)
                  rw [HST.out] at HFIT2 HFOLD
                  go_roundw
                  case rel => exact ⟨r.extract 1 r.size, _, rfl, (HSP2.out.below (below_drewN (Below.refl _ _) nq)).due false, by rw [HX1.out, HZ1.out]; exact HFIT2.out, by rw [HX1.out, L_S]; exact HFOLD.out, (below_drewN HB2.out nq).setCell (Nat.le_refl _) _⟩
                  case measure => simp; omega
                | false =>
                  have CE : Hid (∀ W, SpAt W g (S (whL ifs)) (S (otL ifs)) cur → Calls Try.prog 15 #[.pointer (some ⟨g, 0, none⟩), .bool true] W fun e w' => e = .returned (.tuple #[]) ∧ SpAt w' g (S (whL ifs)) (S (otL ifs)) (endS cur true) ∧ Below g W w') := Lib.hid fun W hW => end_any cur true g _ _ W hW HFIT.out.len.2
                  have HST : Hid (stepB ifs cur c = endS cur true) := Lib.hid (by rw [stepB, hh, hw, hdu]; rfl)
                  rw [hdu] at c5
                  clear hh hw hdu
                  go_wp2_with fail
                  go_quiet ((go_at_call 22; with_reducible first | exact Calls.quiet_of_same (IB1.out _) | exact Calls.quiet_of_same (IB2.out _)))
                  go_wp2_with (go_at_call 22; with_reducible refine (IB1.out _).mono ?_; rintro e w' ⟨rfl, rfl⟩)
                  refine (CE.out _ (HSP2.out.below (below_drewN (Below.refl _ _) nq))).mono ?_
                  rintro e w2 ⟨rfl, hsp3, hb3⟩
                  have HB3 := Lib.hid ((below_drewN HB2.out nq).trans hb3)
                  have HSP3 := Lib.hid hsp3
                  clear hsp3 hb3
                  go_wp2
                  rw [HST.out] at HFIT2 HFOLD
                  go_roundw
                  case rel => exact ⟨r.extract 1 r.size, _, rfl, HSP3.out, by rw [HX1.out, HZ1.out]; exact HFIT2.out, by rw [HX1.out, L_S]; exact HFOLD.out, HB3.out⟩
                  case measure => simp; omega
        · have hkr : r.size ≤ k := by omega
          go_wp2_with fail
          go_quiet (fail)
          have hx0 : r.extract 0 k = S ((L r).take k) := S_extract_to r k
          have hx1 : r.extract k r.size = S ((L r).drop k) := S_extract_from r k
          have hz0 : (S ((L r).take k)).size = k := by rw [S_size, List.length_take, L_size]; omega
          have hz1 : (S ((L r).drop k)).size = r.size - k := by rw [S_size, List.length_drop, L_size]
          have hne : (L r).take k ≠ [] := fun e => by rw [e] at hz0; rw [S_size] at hz0; simp at hz0; omega
          have hfold : ((L r).drop k).foldl (stepB ifs) (putS cur (S ((L r).take k)) false) = R := by
            rw [← HRES.out, ← fold_plain ifs _ cur hne HALL.out, ← List.foldl_append, List.take_append_drop]
          have hfit2 : FitS (putS cur (S ((L r).take k)) false) (r.size - k) := FitS.put (HFIT.out.less (by omega)) (by omega)
          have HX0 := Lib.hid hx0
          have HFOLD := Lib.hid hfold
          have HFIT2 := Lib.hid hfit2
          have CPUT : Hid (∀ W, SpAt W g (S (whL ifs)) (S (otL ifs)) cur → Calls Try.prog 16 #[.pointer (some ⟨g, 0, none⟩), .string (r.extract 0 k), .bool false] W fun e w' => e = .returned (.tuple #[]) ∧ SpAt w' g (S (whL ifs)) (S (otL ifs)) (putS cur (S ((L r).take k)) false) ∧ Below g W w') := Lib.hid fun W hW => by
            rw [HX0.out]
            exact put_any cur _ false g _ _ W hW HFIT.out.len.1 (fun p hp => by have := HFIT.out.1 p hp; omega)
          have HX1 := Lib.hid hx1
          have HZ1 := Lib.hid hz1
          clear hx0 hx1 hz0 hz1 hne hfold hfit2
          go_wp2_with fail
          refine (CPUT.out _ (HSP2.out.below (below_drewN (Below.refl _ _) nq))).mono ?_
          rintro e w2 ⟨rfl, hsp3, hb3⟩
          have HB3 := Lib.hid ((below_drewN HB2.out nq).trans hb3)
          have HSP3 := Lib.hid hsp3
          clear hsp3 hb3
          go_wp2_with fail
          go_roundw
          case rel => exact ⟨r.extract k r.size, _, rfl, HSP3.out, by rw [HX1.out, HZ1.out]; exact HFIT2.out, by rw [HX1.out, L_S]; exact HFOLD.out, HB3.out⟩
          case measure => simp; omega
end Go.Proofs.Ytlehofcgkmhgaaa
