/-
  The walk of uu.Decode.
-/
import Derived.Test.YtjnknckbdfgjlaaU7
namespace Go.Proofs.Ytjnknckbdfgjlaa
open Go.RowKit

/-- The size of the text that the reader in block r still holds. -/
def left (w : World) (r : Nat) : Nat := match w.cell? ⟨r, 0, none⟩ with | some (.string t) => t.size | _ => 0
theorem left_of {w : World} {r : Nat} {t : ByteArray} (h : Rd w r t) : left w r = t.size := by rw [left, h.1]

theorem Rd.set {w : World} {r : Nat} {t : ByteArray} (h : Rd w r t) (u : ByteArray) : Rd (w.setCell ⟨r, 0, none⟩ (.string u)) r u :=
  ⟨World.cell?_setCell_same _ _ _ h.1, by rw [World.frozen?_setCell]; exact h.2⟩

theorem next_keep {w0 w1 w2 : World} {t u : ByteArray} {acc : List UInt8} (hb : Below w1.heap.size w1 w2) (hrd : Rd w1 w0.heap.size t) (hbd : Bld w1 (w0.heap.size + 1) (w0.heap.size + 1) acc) (hb0 : Below w0.heap.size w0 w1) (hsz : w0.heap.size + 1 < w1.heap.size) :
    Rd (w2.setCell ⟨w0.heap.size, 0, none⟩ (.string u)) w0.heap.size u ∧ Bld (w2.setCell ⟨w0.heap.size, 0, none⟩ (.string u)) (w0.heap.size + 1) (w0.heap.size + 1) acc ∧
      Below w0.heap.size w0 (w2.setCell ⟨w0.heap.size, 0, none⟩ (.string u)) ∧ w0.heap.size + 1 < (w2.setCell ⟨w0.heap.size, 0, none⟩ (.string u)).heap.size := by
  have h1 := hb.size
  exact ⟨(hrd.below hb (by omega)).set u, (hbd.below hb).setCell_below (by show w0.heap.size < _; omega) _, (hb0.trans (hb.mono (by omega))).setCell (Nat.le_refl _) _, by simp; omega⟩

set_option maxRecDepth 100000 in
set_option maxHeartbeats 4000000 in
theorem decode_any (s : ByteArray) (w : World) (hs : s.size ≤ 100000) (hv : Held w) :
    Calls Try.prog 11 #[.string s] w fun e w' => e = .returned (decV (decodeP (L s))) ∧ Below w.heap.size w w' := by
  have HV := Lib.hid hv
  have w0pos := hv.2
  clear hv
  obtain ⟨w1, hw1⟩ : ∃ w1, w1 = (w.alloc (.cells #[.string s] 62)).alloc (.cells #[.pointer none, .slice none 0 0] 49) := ⟨_, rfl⟩
  have hsz1 : w1.heap.size = w.heap.size + 2 := by rw [hw1]; simp
  have hrd : Rd w1 w.heap.size s := by rw [hw1]; exact ⟨by simp, by simp⟩
  have hbd : Bld w1 (w.heap.size + 1) (w.heap.size + 1) [] := by
    have := Bld.fresh (w.alloc (.cells #[.string s] 62))
    rw [hw1]; simpa using this
  have hb1 : Below w.heap.size w w1 := by rw [hw1]; go_grown
  have HW1 := Lib.hid hw1
  have HRD := Lib.hid hrd
  have hvv : ∀ w', Below w.heap.size w w' → Held w' := fun w' h => HV.out.below w0pos h
  have HVV := Lib.hid hvv
  clear hw1 hrd hvv
  by_cases hl : (10 : UInt8) ∈ L s
  · have hlol : (lineOf (L s)).length ≤ 100000 := by have := congrArg List.length (line_after hl); have hls : (L s).length = s.size := rfl; simp at this; omega
    have hafl := after_lt hl
    have hls : (L s).length = s.size := rfl
    have HL := Lib.hid hl
    cases hh : headP (lineOf (L s)) with
    | none =>
      have hdp : decodeP (L s) = none := by rw [decodeP, if_pos hl, hh]; rfl
      have HDP := Lib.hid hdp
      have HH := Lib.hid hh
      clear hdp hl hh hls
      go_enter Try.func11, Try.ntmps11
      go_wp2_with fail
      refine wp_scope_straight ?_
      go_wp2_with fail
      rw [← HW1.out]
      refine (next_yes w.heap.size s w1 HRD.out hs (HVV.out _ hb1) (by omega) HL.out).mono ?_
      rintro e w3 ⟨rfl, w2, hb2, hw3⟩
      obtain ⟨k1, k2, k3, k4⟩ := next_keep (u := S (after (L s))) hb2 HRD.out hbd hb1 (by omega)
      rw [← hw3] at k1 k2 k3 k4
      have K1 := Lib.hid k1
      clear hw3 hb2 k1
      go_wp2_with fail
      refine (head_any (S (lineOf (L s))) _ hlol (HVV.out _ k3)).mono ?_
      rw [L_S, HH.out]
      rintro e w4 ⟨rfl, hb4⟩
      have m1 := K1.out.below hb4 (by omega)
      have m2 := k2.below hb4
      have m3 := k3.trans (hb4.mono k3.size)
      have m4 : w.heap.size + 1 < w4.heap.size := by have := hb4.size; omega
      have M1 := Lib.hid m1
      clear hb4 m1
      simp only [headV]
      go_wp2_with fail
      simp only [Exit.noGoto]
      refine bodyPost_ret (v := .tuple #[.int .i64 0, .string ⟨#[]⟩, .string ⟨#[]⟩, .int .i64 11]) (by simp [results, Try.results11, go_sem]) rfl ⟨?_, ?_⟩
      · rw [HDP.out]; rfl
      · exact m3
    | some r =>
      obtain ⟨m, nm⟩ := r
      have hdp : decodeP (L s) = (decLoop (after (L s))).map fun d => (m, nm, d) := by rw [decodeP, if_pos hl, hh]; rfl
      have HDP := Lib.hid hdp
      have HH := Lib.hid hh
      have has : (after (L s)).length < s.size := by omega
      clear hdp hl hh hls hafl
      go_enter Try.func11, Try.ntmps11
      go_wp2_with fail
      refine wp_scope_again 0 (fun a' w' => ∃ (t : ByteArray) (acc : List UInt8), Rd w' w.heap.size t ∧ t.size ≤ 100000 ∧ Bld w' (w.heap.size + 1) (w.heap.size + 1) acc ∧ Below w.heap.size w w' ∧ w.heap.size + 1 < w'.heap.size ∧ acc.length + 45 * t.size ≤ 45 * s.size ∧
          decLoop (after (L s)) = (decLoop (L t)).map (acc ++ ·) ∧
          ∃ (u1 u8 u9 u10 u11 u12 u13 u14 u15 u16 u17 u18 u19 u20 u21 u22 u23 u24 u25 u26 u27 u28 u29 u30 u31 u32 u33 u34 u35 u36 u37 u38 u39 u40 u41 u42 u43 u44 u45 u46 u47 u48 u49 u50 u51 u52 u53 u54 u55 u56 u57 u58 u59 u60 : Value), a' = { tmps := #[.string s, u1, .int .i64 (m : Nat), .string (S nm), .string ⟨#[]⟩, .int .i64 0, .pointer (some ⟨w.heap.size, 0, none⟩), .pointer (some ⟨w.heap.size + 1, 0, none⟩), u8, u9, u10, u11, u12, u13, u14, u15, u16, u17, u18, u19, u20, u21, u22, u23, u24, u25, u26, u27, u28, u29, u30, u31, u32, u33, u34, u35, u36, u37, u38, u39, u40, u41, u42, u43, u44, u45, u46, u47, u48, u49, u50, u51, u52, u53, u54, u55, u56, u57, u58, u59, u60], defers := [] })
        (fun _ w' => left w' w.heap.size) rfl ?_ ?_
      · rintro a' wr ⟨t, acc, hrt, htl, hbt, hbw, hbz, hal, hdec, u1, u8, u9, u10, u11, u12, u13, u14, u15, u16, u17, u18, u19, u20, u21, u22, u23, u24, u25, u26, u27, u28, u29, u30, u31, u32, u33, u34, u35, u36, u37, u38, u39, u40, u41, u42, u43, u44, u45, u46, u47, u48, u49, u50, u51, u52, u53, u54, u55, u56, u57, u58, u59, u60, rfl⟩
        have HRT := Lib.hid hrt
        have hdp2 : decodeP (L s) = (decLoop (L t)).map fun d => (m, nm, acc ++ d) := by rw [HDP.out, hdec, Option.map_map]; rfl
        have HD2 := Lib.hid hdp2
        have HDEC := Lib.hid hdec
        clear hdec hdp2 hrt
        by_cases h10 : (10 : UInt8) ∈ L t
        · have hlo : (lineOf (L t)).length ≤ 100000 := by have := congrArg List.length (line_after h10); have h2 : (L t).length = t.size := rfl; simp at this; omega
          have hlo2 : (lineOf (L t)).length + 1 + (after (L t)).length = t.size := by have := congrArg List.length (line_after h10); have h2 : (L t).length = t.size := rfl; simp at this; omega
          have hdy := decLoop_yes h10
          have HDY := Lib.hid hdy
          have H10 := Lib.hid h10
          clear hdy h10
          cases hb : bytesP (lineOf (L t)) with
          | none =>
            have HB := Lib.hid hb
            have hno : decodeP (L s) = none := by rw [HD2.out, HDY.out, hb]; rfl
            have HNO := Lib.hid hno
            clear hb hno
            go_wp2_with fail
            refine (next_yes w.heap.size t wr HRT.out htl (HVV.out _ hbw) (by omega) H10.out).mono ?_
            rintro e w3 ⟨rfl, w2, hb2, hw3⟩
            obtain ⟨k1, k2, k3, k4⟩ := next_keep (u := S (after (L t))) hb2 HRT.out hbt hbw hbz
            rw [← hw3] at k1 k2 k3 k4
            have K1 := Lib.hid k1
            clear hw3 hb2 k1
            go_wp2_with fail
            refine (bytes_any (S (lineOf (L t))) _ hlo).mono ?_
            rw [L_S, HB.out]
            rintro e w4 ⟨rfl, hb4⟩
            have m1 := K1.out.below hb4 (by omega)
            have m2 := k2.below hb4
            have m3 := k3.trans (hb4.mono k3.size)
            have m4 : w.heap.size + 1 < w4.heap.size := by have := hb4.size; omega
            have M1 := Lib.hid m1
            clear hb4
            simp only [bytesV]
            go_wp2_with fail
            simp only [Exit.jump]
            refine bodyPost_ret (v := .tuple #[.int .i64 0, .string ⟨#[]⟩, .string ⟨#[]⟩, .int .i64 11]) (by simp [results, Try.results11, go_sem]) rfl ⟨?_, ?_⟩
            · rw [HNO.out]; rfl
            · exact m3
          | some d =>
            have HB := Lib.hid hb
            by_cases hd : d = []
            · subst hd
              by_cases he : after (L t) = [101, 110, 100, 10]
              · have hyes : decodeP (L s) = some (m, nm, acc) := by rw [HD2.out, HDY.out, hb, he]; simp
                have HY := Lib.hid hyes
                have ht1 : ((S (after (L t))).toList == [101, 110, 100, 10]) = true := by rw [toList_L, L_S, he]; rfl
                clear hb hyes he
                go_wp2_with fail
                refine (next_yes w.heap.size t wr HRT.out htl (HVV.out _ hbw) (by omega) H10.out).mono ?_
                rintro e w3 ⟨rfl, w2, hb2, hw3⟩
                obtain ⟨k1, k2, k3, k4⟩ := next_keep (u := S (after (L t))) hb2 HRT.out hbt hbw hbz
                rw [← hw3] at k1 k2 k3 k4
                have K1 := Lib.hid k1
                clear hw3 hb2 k1
                go_wp2_with fail
                refine (bytes_any (S (lineOf (L t))) _ hlo).mono ?_
                rw [L_S, HB.out]
                rintro e w4 ⟨rfl, hb4⟩
                have m1 := K1.out.below hb4 (by omega)
                have m2 := k2.below hb4
                have m3 := k3.trans (hb4.mono k3.size)
                have m4 : w.heap.size + 1 < w4.heap.size := by have := hb4.size; omega
                have M1 := Lib.hid m1
                clear hb4
                simp only [bytesV]
                obtain ⟨c1, c2⟩ := m1
                have hss : (S ([] : List UInt8)).toList.isEmpty = true := by rw [toList_L]; rfl
                go_wp2_with fail
                refine (Try.Builder_String_any _ _ _ _ m2 (by omega)).mono ?_
                rintro e w5 ⟨rfl, hb5⟩
                go_wp2_with fail
                simp only [Exit.jump]
                refine bodyPost_ret (v := .tuple #[.int .i64 (m : Nat), .string (S nm), .string (S acc), .int .i64 0]) (by simp [results, Try.results11, go_sem]; rfl) rfl ⟨?_, ?_⟩
                · rw [HY.out]; rfl
                · exact m3.trans (hb5.mono (by omega))
              · have hno : decodeP (L s) = none := by rw [HD2.out, HDY.out, hb]; simp [he]
                have HNO := Lib.hid hno
                have ht1 : ((S (after (L t))).toList == [101, 110, 100, 10]) = false := by rw [toList_L, L_S, beq_eq_false_iff_ne]; exact he
                clear hb hno he
                go_wp2_with fail
                refine (next_yes w.heap.size t wr HRT.out htl (HVV.out _ hbw) (by omega) H10.out).mono ?_
                rintro e w3 ⟨rfl, w2, hb2, hw3⟩
                obtain ⟨k1, k2, k3, k4⟩ := next_keep (u := S (after (L t))) hb2 HRT.out hbt hbw hbz
                rw [← hw3] at k1 k2 k3 k4
                have K1 := Lib.hid k1
                clear hw3 hb2 k1
                go_wp2_with fail
                refine (bytes_any (S (lineOf (L t))) _ hlo).mono ?_
                rw [L_S, HB.out]
                rintro e w4 ⟨rfl, hb4⟩
                have m1 := K1.out.below hb4 (by omega)
                have m2 := k2.below hb4
                have m3 := k3.trans (hb4.mono k3.size)
                have m4 : w.heap.size + 1 < w4.heap.size := by have := hb4.size; omega
                have M1 := Lib.hid m1
                clear hb4
                simp only [bytesV]
                obtain ⟨c1, c2⟩ := m1
                have hss : (S ([] : List UInt8)).toList.isEmpty = true := by rw [toList_L]; rfl
                go_wp2_with fail
                simp only [Exit.jump]
                refine bodyPost_ret (v := .tuple #[.int .i64 0, .string ⟨#[]⟩, .string ⟨#[]⟩, .int .i64 11]) (by simp [results, Try.results11, go_sem]) rfl ⟨?_, ?_⟩
                · rw [HNO.out]; rfl
                · exact m3
            · have hdl : d.length ≤ 45 := by
                unfold bytesP at hb
                split at hb
                · rename_i hc
                  obtain ⟨x, _, rfl⟩ := Option.map_eq_some_iff.1 hb
                  rw [List.length_take]; omega
                · cases hb
              have hgo : decLoop (after (L s)) = (decLoop (after (L t))).map ((acc ++ d) ++ ·) := by
                rw [HDEC.out, HDY.out, hb]
                simp only [hd, if_false, Option.map_map]
                congr 1
                funext x; simp
              have HGO := Lib.hid hgo
              have hss : (S d).toList.isEmpty = false := by rw [toList_L, L_S]; simpa using hd
              have hds : (S d).size ≤ 45 := hdl
              clear hb hgo hd
              go_wp2_with fail
              refine (next_yes w.heap.size t wr HRT.out htl (HVV.out _ hbw) (by omega) H10.out).mono ?_
              rintro e w3 ⟨rfl, w2, hb2, hw3⟩
              obtain ⟨k1, k2, k3, k4⟩ := next_keep (u := S (after (L t))) hb2 HRT.out hbt hbw hbz
              rw [← hw3] at k1 k2 k3 k4
              have K1 := Lib.hid k1
              clear hw3 hb2 k1
              go_wp2_with fail
              refine (bytes_any (S (lineOf (L t))) _ hlo).mono ?_
              rw [L_S, HB.out]
              rintro e w4 ⟨rfl, hb4⟩
              have m1 := K1.out.below hb4 (by omega)
              have m2 := k2.below hb4
              have m3 := k3.trans (hb4.mono k3.size)
              have m4 : w.heap.size + 1 < w4.heap.size := by have := hb4.size; omega
              have M1 := Lib.hid m1
              clear hb4
              simp only [bytesV]
              go_wp2_with fail
              refine (write_any _ _ acc (S d) _ m2 (by omega) (by omega)).mono ?_
              rintro e w5 ⟨rfl, hbd5, hb5⟩
              have HM := M1.out.below hb5 (by omega)
              have HMM := Lib.hid HM
              have HK := HRT
              clear m1 HM
              go_wp2_with fail
              go_step3
              refine ⟨rfl, ⟨S (after (L t)), acc ++ d, HMM.out, by show (after (L t)).length ≤ _; omega, hbd5, m3.trans (hb5.mono (by omega)), by have := hb5.size; omega, ?_, by rw [L_S]; exact HGO.out,
                _, _, _, _, _, _, _, _, _, _, _, _, _, _, _, _, _, _, _, _, _, _, _, _, _, _, _, _, _, _, _, _, _, _, _, _, _, _, _, _, _, _, _, _, _, _, _, _, _, _, _, _, _, _, rfl⟩, ?_⟩
              · show (acc ++ d).length + 45 * (after (L t)).length ≤ _
                rw [List.length_append]; omega
              · rw [left_of HMM.out, left_of HK.out]
                show (after (L t)).length < _
                omega
        · have hno : decodeP (L s) = none := by rw [HD2.out, decLoop_no h10]; rfl
          have HNO := Lib.hid hno
          have H10 := Lib.hid h10
          clear hno h10
          go_wp2_with fail
          refine (next_no w.heap.size t wr HRT.out htl (HVV.out _ hbw) H10.out).mono ?_
          rintro e w2 ⟨rfl, hb2⟩
          go_wp2_with fail
          refine (bytes_any t _ htl).mono ?_
          cases hb : bytesP (L t)
          all_goals
            clear hb
            simp only [bytesV]
            rintro e w3 ⟨rfl, hb3⟩
            go_wp2_with fail
            simp only [Exit.jump]
            refine bodyPost_ret (v := .tuple #[.int .i64 0, .string ⟨#[]⟩, .string ⟨#[]⟩, .int .i64 11]) (by simp [results, Try.results11, go_sem]) rfl ⟨?_, ?_⟩
            · rw [HNO.out]; rfl
            · exact (hbw.trans (hb2.mono hbw.size)).trans (hb3.mono (by have := hb2.size; have := hbw.size; omega))
      · intro hR
        go_wp2_with fail
        rw [← HW1.out]
        refine (next_yes w.heap.size s w1 HRD.out hs (HVV.out _ hb1) (by omega) HL.out).mono ?_
        rintro e w3 ⟨rfl, w2, hb2, hw3⟩
        obtain ⟨k1, k2, k3, k4⟩ := next_keep (u := S (after (L s))) hb2 HRD.out hbd hb1 (by omega)
        rw [← hw3] at k1 k2 k3 k4
        have K1 := Lib.hid k1
        clear hw3 hb2 k1
        go_wp2_with fail
        refine (head_any (S (lineOf (L s))) _ hlol (HVV.out _ k3)).mono ?_
        rw [L_S, HH.out]
        rintro e w4 ⟨rfl, hb4⟩
        have m1 := K1.out.below hb4 (by omega)
        have m2 := k2.below hb4
        have m3 := k3.trans (hb4.mono k3.size)
        have m4 : w.heap.size + 1 < w4.heap.size := by have := hb4.size; omega
        have M1 := Lib.hid m1
        clear hb4 m1
        simp only [headV]
        go_wp2_with fail
        go_step3
        go_step
        go_step
        exact hR.out _ _ ⟨S (after (L s)), [], M1.out, by show (after (L s)).length ≤ _; omega, m2, m3, m4, by show 0 + 45 * (after (L s)).length ≤ _; omega, by rw [L_S]; simp,
          _, _, _, _, _, _, _, _, _, _, _, _, _, _, _, _, _, _, _, _, _, _, _, _, _, _, _, _, _, _, _, _, _, _, _, _, _, _, _, _, _, _, _, _, _, _, _, _, _, _, _, _, _, _, rfl⟩
  · have hd : decodeP (L s) = none := by rw [decodeP, if_neg hl]
    have HD := Lib.hid hd
    have HL := Lib.hid hl
    clear hd hl
    go_enter Try.func11, Try.ntmps11
    go_wp2_with fail
    refine wp_scope_straight ?_
    go_wp2_with fail
    rw [← HW1.out]
    refine (next_no w.heap.size s w1 HRD.out hs (HVV.out _ hb1) HL.out).mono ?_
    rintro e w2 ⟨rfl, hb2⟩
    go_wp2_with fail
    simp only [Exit.noGoto]
    refine bodyPost_ret (v := .tuple #[.int .i64 0, .string ⟨#[]⟩, .string ⟨#[]⟩, .int .i64 11]) (by simp [results, Try.results11, go_sem]) rfl ⟨?_, ?_⟩
    · rw [HD.out]; rfl
    · exact hb1.trans (hb2.mono hb1.size)
end Go.Proofs.Ytjnknckbdfgjlaa
