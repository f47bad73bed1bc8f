/-
  Plain, Escape; a part and a byte; is a pattern more than a text; its first byte: the walks.
-/
import Derived.Test.YtjeinpadcknfbaaGreatDoorWB4
import Derived.Test.YtjeinpadcknfbaaGreatDoorWB3
import Derived.Deep.Cut
import Derived.Test.YtjeinpadcknfbaaGreatDoorWB2
set_option linter.unusedVariables false
set_option linter.unusedSimpArgs false
/-
  A set behind its bracket: the walk, step by step.
-/
namespace Go.Proofs.YtjeinpadcknfbaaGreatDoor
open Go.RowKit

def SetPost (neg : Bool) (R : Option (List Span × Nat)) (w : World) (e : Ending) (w' : World) : Prop := Below w.heap.size w w' ∧ match R with
  | some (sp, n) => ∃ sv, e = .returned (.tuple #[.agg (partC 91 0 neg sv), .int .i64 (n : Nat), .bool true]) ∧ w'.ownsRow w.heap.size 154 2 sv sp.length (sp.flatMap spanC)
  | none => e = .returned (.tuple #[.agg (partC 0 0 false (.slice none 0 0)), .int .i64 0, .bool false])

theorem infoSpan : (Tryz.prog.info? 154).map (fun i => (i.zero, i.size, i.bytes)) = some (some (.agg #[.int .u8 0, .int .u8 0]), 2, 2) := by kernel_rfl

def off0 (l : List Sg) : Nat := if notS l then 1 else 0

set_option maxHeartbeats 4000000 in
set_option maxRecDepth 100000 in
theorem set_any (l : List Sg) (v : Value) (w : World) (hl : Sl w w.heap.size 2 v l.length (l.flatMap sgC)) (hn : l.length ≤ 100000) :
    Calls Tryz.prog 70 #[v] w (SetPost (notS l) (setS true (off0 l) [] (l.drop (off0 l))) w) := by
  obtain ⟨R, hR⟩ : ∃ R, R = setS true (off0 l) [] (l.drop (off0 l)) := ⟨_, rfl⟩
  obtain ⟨neg, hneg⟩ : ∃ neg, neg = notS l := ⟨_, rfl⟩
  obtain ⟨f0, hf0⟩ : ∃ f0, f0 = off0 l := ⟨_, rfl⟩
  obtain ⟨n, hnl⟩ : ∃ n, n = l.length := ⟨_, rfl⟩
  rw [← hR, ← hneg]
  rw [← hf0] at hR
  rw [← hnl] at hl hn
  have HL0 := Lib.hid hl
  obtain ⟨a, cap, rfl⟩ : ∃ a cap, v = .slice a n cap := by
    obtain ⟨_, a, cap, h, _⟩ := hl
    exact ⟨a, cap, h⟩
  have HR := Lib.hid hR
  have HNEG := Lib.hid hneg
  have HF := Lib.hid hf0
  have HN := Lib.hid hnl
  clear hR hneg hf0 hnl hl
  go_enter Tryz.func70, Tryz.ntmps70
  go_wp2_with fail
  refine wp_scope_again 0 (fun a' w' => ∃ (k : Nat) (sp : List Span) (sv : Value), k ≤ n ∧ f0 ≤ k ∧ sp.length ≤ 4 * k ∧ (∃ u : Nat → Value, a' = { tmps := #[.slice a n cap, u 1, .pointer (some ⟨w.heap.size, 0, none⟩), .int .i64 0, .bool false, .pointer (some ⟨w.heap.size + 1, 0, none⟩), .int .i64 (k : Nat), .int .i64 (f0 : Nat), u 8, u 9, u 10, u 11, u 12, u 13, u 14, u 15, u 16, u 17, u 18, u 19, u 20, u 21, u 22, u 23, u 24, u 25, u 26, u 27, u 28, u 29, u 30, u 31, u 32, u 33, u 34, u 35, u 36, u 37, u 38, u 39, u 40, u 41, u 42, u 43, u 44, u 45, u 46, u 47, u 48, u 49, u 50, u 51, u 52, u 53, u 54, u 55, u 56, u 57, u 58, u 59, u 60, u 61, u 62, u 63, u 64, u 65, u 66, u 67, u 68, u 69, u 70, u 71, u 72, u 73, u 74, u 75, u 76, u 77, u 78, u 79, u 80, u 81, u 82, u 83, u 84, u 85, u 86, u 87, u 88, u 89, u 90, u 91, u 92, u 93, u 94, u 95, u 96, u 97, u 98, u 99, u 100, u 101, u 102, u 103, u 104, u 105, u 106, u 107, u 108, u 109, u 110, u 111, u 112, u 113, u 114, u 115], defers := [] }) ∧ PInv w w' neg sv sp ∧ R = setS (decide (k = f0)) k sp (l.drop k))
    (fun a' _ => n - (intOf (a'.tmps.getD 6 undef)).toNat) rfl ?_ ?_
  · rintro a' wr ⟨k, sp, sv, hk, hfk, hsp, ⟨u, rfl⟩, hinv, hr⟩
    obtain ⟨sa, scap, rfl⟩ := own_shape hinv.own
    have hz := hinv.size
    have hz0 : w.heap.size < wr.heap.size := by omega
    have r0 := hinv.res.cell 0
    have r1 := hinv.res.cell 1
    have r2 := hinv.res.cell 2
    have r3 := hinv.res.cell 3
    have s0 := hinv.res.free 0
    have s1 := hinv.res.free 1
    have s2 := hinv.res.free 2
    have s3 := hinv.res.free 3
    have p0 := hinv.blk.cell 0
    have p1 := hinv.blk.cell 1
    have p2 := hinv.blk.cell 2
    have p3 := hinv.blk.cell 3
    simp [partC] at r0 r1 r2 r3 p0 p1 p2 p3
    have HI := Lib.hid hinv
    have HRR := Lib.hid hr
    clear hinv hr
    by_cases hlt : k < n
    · obtain ⟨x, hx⟩ : ∃ x, l[k]? = some x := ⟨_, List.getElem?_eq_getElem (by rw [← HN.out]; omega)⟩
      have hl1 := HL0.out.below HI.out.bel
      rw [HN.out] at hl1
      obtain ⟨b1, o1, i1, hb1, c1, d1⟩ := sg_at hl1 hx (k : Int) rfl
      obtain ⟨v', j1, hcut⟩ := sgs_cut hl1 (k := k) (by rw [← HN.out]; omega)
      rw [← HN.out] at i1 j1
      have hb1' : b1 < wr.heap.size := by omega
      have hdr := drop_cons hx
      obtain ⟨q1, hq1⟩ : ∃ r, isb x 93 = r := ⟨_, rfl⟩
      have C1 := is_at x 93 q1 hq1 93 rfl
      have CN : Hid (∀ W, Below wr.heap.size wr W → Calls Tryz.prog 92 #[v'] W (NamedPost (namedS (l.drop k)) W)) := Lib.hid fun W hW => named_any _ _ _ ((hcut.below (hW.mono (by omega))).mono (by have := hW.size; omega)) (by rw [List.length_drop, ← HN.out]; omega)
      obtain ⟨ed, hed⟩ : ∃ ed, ed = (q1 && !(decide (k = f0))) := ⟨_, rfl⟩
      have HHL := Lib.hid hl1
      clear hl1 hcut
      cases ed with
      | true =>
        simp at hed
        obtain ⟨rfl, hkf⟩ := hed
        have hfk2 : f0 < k := by omega
        have hR : R = some (sp, k + 1) := by rw [HRR.out, hdr, decide_eq_false hkf, setS_end hq1]
        subst hR
        clear hdr hq1 hx hkf
        go_wp2_with (go_at_call 69; with_reducible first | (refine (C1.out _).mono ?_; rintro e w' ⟨rfl, rfl⟩) | (refine (C2.out _).mono ?_; rintro e w' ⟨rfl, rfl⟩) | (refine (C3.out _).mono ?_; rintro e w' ⟨rfl, rfl⟩))
        try simp only [Exit.jump]
        have hfin := ((((HI.out.res.put 0 (.int .u8 91)).put 1 (.int .u8 0)).put 2 (.bool neg)).put 3 (.slice sa sp.length scap)).alloc (.cells #[.int .u8 ((x.b.toNat : Nat) : Int), .bool x.q] 134)
        have hbf := Below.alloc ((((HI.out.bel.setCell (p := ⟨w.heap.size, 0, none⟩) (Nat.le_refl _) (.int .u8 91)).setCell (p := ⟨w.heap.size, 1, none⟩) (Nat.le_refl _) (.int .u8 0)).setCell (p := ⟨w.heap.size, 2, none⟩) (Nat.le_refl _) (.bool neg)).setCell (p := ⟨w.heap.size, 3, none⟩) (Nat.le_refl _) (.slice sa sp.length scap)) (by simp [World.setCell]; omega) (.cells #[.int .u8 ((x.b.toNat : Nat) : Int), .bool x.q] 134)
        have hown := (own_far (p := ⟨w.heap.size, 3, none⟩) (own_far (p := ⟨w.heap.size, 2, none⟩) (own_far (p := ⟨w.heap.size, 1, none⟩) (own_far (p := ⟨w.heap.size, 0, none⟩) HI.out.own (by simp) (.int .u8 91)) (by simp) (.int .u8 0)) (by simp) (.bool neg)) (by simp) (.slice sa sp.length scap)).alloc (.cells #[.int .u8 ((x.b.toNat : Nat) : Int), .bool x.q] 134)
        refine bodyPost_ret (set_results rfl hfin) rfl ?_
        exact ⟨hbf, _, rfl, own_from hown (by omega)⟩
      | false =>
        obtain ⟨N, hN⟩ : ∃ N, namedS (l.drop k) = N := ⟨_, rfl⟩
        rw [hN] at CN
        have hend : (isb x 93 && !(decide (k = f0))) = false := by rw [hq1, ← hed]
        have hk5 : q1 = false ∨ (q1 = true ∧ k = f0) := by
          cases q1 with
          | false => exact .inl rfl
          | true => simp at hed; exact .inr ⟨rfl, hed⟩
        cases N with
        | some cm =>
          obtain ⟨cs, m⟩ := cm
          have hm := namedS_gt hN
          have hcs := namedS_pos hN
          have HR2 : Hid (R = setS (decide (k + m = f0)) (k + m) (sp ++ cs) (l.drop (k + m))) := Lib.hid (by
            rw [HRR.out, hdr, setS_named hend (by rw [← hdr]; exact hN), ← hdr, List.drop_drop, decide_eq_false (by omega)])
          have hmn : k + m ≤ n := by have := hm.2; rw [List.length_drop, ← HN.out] at this; omega

          clear hdr hq1 hx hed hend hN
          rcases hk5 with rfl | ⟨rfl, rfl⟩
          · skip
            go_wp2_with (first | (go_at_call 69; with_reducible first | (refine (C1.out _).mono ?_; rintro e w' ⟨rfl, rfl⟩) | (refine (C2.out _).mono ?_; rintro e w' ⟨rfl, rfl⟩) | (refine (C3.out _).mono ?_; rintro e w' ⟨rfl, rfl⟩)) | (go_at_call 92; refine (CN.out _ (Below.alloc (Below.refl _ _) (Nat.le_refl _) _)).mono ?_; rintro e w1 ⟨hb, v3, rfl, hs3⟩; have hb5 := (Below.alloc (Below.refl _ _) (Nat.le_refl _) _).trans (hb.mono (by simp)); have HB5 := Lib.hid hb5; have HI1 := Lib.hid (HI.out.next hb5); have HS3 := Lib.hid hs3; obtain ⟨g1, g2⟩ := HI1.out.facts; clear hb hb5 hs3) | (at_builtin; go_must (refine append_sl rfl _ _ 135 rfl (w.heap.size + 2) 154 Tryz.underlying135 infoSpan rfl (by decide) (v := .slice sa sp.length scap) (n := sp.length) (xs := sp.flatMap spanC) rfl HI1.out.own (m := cs.length) (news := cs.flatMap spanC) rfl HS3.out hcs.1 (spans_one cs) (by omega) HI1.out.size ?_); intro g cap1 w2 hown hgrow hlie hglt; obtain ⟨g3, g4⟩ := HI1.out.facts_grown hgrow; have HP := Lib.hid (HI1.out.push cs rfl hown hgrow); clear hown hgrow hlie hglt))
            go_step3
            refine ⟨rfl, ⟨k + m, sp ++ cs, _, hmn, by omega, by rw [List.length_append]; omega, fr_intro rfl, HP.out, HR2.out⟩, ?_⟩
            simp [intOf]; omega
          · skip
            go_wp2_with (first | (go_at_call 69; with_reducible first | (refine (C1.out _).mono ?_; rintro e w' ⟨rfl, rfl⟩) | (refine (C2.out _).mono ?_; rintro e w' ⟨rfl, rfl⟩) | (refine (C3.out _).mono ?_; rintro e w' ⟨rfl, rfl⟩)) | (go_at_call 92; refine (CN.out _ (Below.alloc (Below.refl _ _) (Nat.le_refl _) _)).mono ?_; rintro e w1 ⟨hb, v3, rfl, hs3⟩; have hb5 := (Below.alloc (Below.refl _ _) (Nat.le_refl _) _).trans (hb.mono (by simp)); have HB5 := Lib.hid hb5; have HI1 := Lib.hid (HI.out.next hb5); have HS3 := Lib.hid hs3; obtain ⟨g1, g2⟩ := HI1.out.facts; clear hb hb5 hs3) | (at_builtin; go_must (refine append_sl rfl _ _ 135 rfl (w.heap.size + 2) 154 Tryz.underlying135 infoSpan rfl (by decide) (v := .slice sa sp.length scap) (n := sp.length) (xs := sp.flatMap spanC) rfl HI1.out.own (m := cs.length) (news := cs.flatMap spanC) rfl HS3.out hcs.1 (spans_one cs) (by omega) HI1.out.size ?_); intro g cap1 w2 hown hgrow hlie hglt; obtain ⟨g3, g4⟩ := HI1.out.facts_grown hgrow; have HP := Lib.hid (HI1.out.push cs rfl hown hgrow); clear hown hgrow hlie hglt))
            go_step3
            refine ⟨rfl, ⟨k + m, sp ++ cs, _, hmn, by omega, by rw [List.length_append]; omega, fr_intro rfl, HP.out, HR2.out⟩, ?_⟩
            simp [intOf]; omega
        | none =>
          have HEL : Hid (∀ W, Below wr.heap.size wr W → ∀ (j : Nat) (y : Sg), l[j]? = some y → ∀ i : Int, i = j → ∃ b o, (∀ w' : World, (Instr.indexAt 131 (.slice a n cap) (.int .i64 i)).run Tryz.prog w' = .ok (.pointer (some ⟨b, o, none⟩)) w') ∧ b < wr.heap.size ∧ W.cell? ⟨b, o, none⟩ = some (.int .u8 ((y.b.toNat : Nat) : Int)) ∧ W.cell? ⟨b, o + 1, none⟩ = some (.bool y.q)) := Lib.hid fun W hW j y hy i hi => by
            obtain ⟨b, o, z1, z2, z3, z4⟩ := sg_at (HHL.out.below (hW.mono (by omega))) hy i hi
            rw [← HN.out] at z1
            exact ⟨b, o, z1, by omega, z3, z4⟩
          have hone : ∀ c : UInt8, (match rangeS (l.drop (k + 1)) with | some z => c = z | none => c = x.b) → R = setS (decide ((if (rangeS (l.drop (k + 1))).isSome then k + 3 else k + 1) = f0)) (if (rangeS (l.drop (k + 1))).isSome then k + 3 else k + 1) (sp ++ [(x.b, c)]) (l.drop (if (rangeS (l.drop (k + 1))).isSome then k + 3 else k + 1)) := fun c hc => by
            rw [HRR.out, hdr]
            cases hrg : rangeS (l.drop (k + 1)) with
            | some z =>
              rw [hrg] at hc
              subst hc
              rw [setS_range hend (by rw [← hdr]; exact hN) hrg]
              simp only [Option.isSome_some, if_true]
              rw [List.drop_drop, decide_eq_false (show ¬ k + 3 = f0 by omega)]
            | none =>
              rw [hrg] at hc
              subst hc
              rw [setS_one hend (by rw [← hdr]; exact hN) hrg]
              simp only [Option.isSome_none, Bool.false_eq_true, if_false]
              rw [decide_eq_false (show ¬ k + 1 = f0 by omega)]
          have HONE := Lib.hid hone
          have HX := Lib.hid hx
          clear hdr hq1 hed hend hN hone hx
          by_cases h2 : k + 2 < n
          · obtain ⟨y, hy⟩ : ∃ y, l[k + 1]? = some y := ⟨_, List.getElem?_eq_getElem (by rw [← HN.out]; omega)⟩
            obtain ⟨z, hzz⟩ : ∃ z, l[k + 2]? = some z := ⟨_, List.getElem?_eq_getElem (by rw [← HN.out]; omega)⟩
            have hd1 : l.drop (k + 1) = y :: z :: l.drop (k + 3) := by rw [drop_cons hy, drop_cons hzz]
            obtain ⟨q2, hq2⟩ : ∃ r, isb y 45 = r := ⟨_, rfl⟩
            obtain ⟨q3, hq3⟩ : ∃ r, isb z 93 = r := ⟨_, rfl⟩
            have C2 := is_at y 45 q2 hq2 45 rfl
            have C3 := is_at z 93 q3 hq3 93 rfl
            have hrg : rangeS (l.drop (k + 1)) = if q2 && !q3 then some z.b else none := by rw [hd1, rangeS, hq2, hq3]
            have HY := Lib.hid hy
            have HZ := Lib.hid hzz
            have h2' : (k : Int) + 1 + 1 < n := by omega
            have HO := HONE.out
            clear hy hzz hd1 hq2 hq3
            cases q2 with
            | true =>
              cases q3 with
              | true =>
                rw [hrg] at HO
                have HR2 := Lib.hid (HO x.b rfl)
                simp at HR2
                clear HO hrg
                rcases hk5 with rfl | ⟨rfl, rfl⟩
                · skip
                  go_wp2_with (first | (go_at_call 69; with_reducible first | (refine (C1.out _).mono ?_; rintro e w' ⟨rfl, rfl⟩) | (refine (C2.out _).mono ?_; rintro e w' ⟨rfl, rfl⟩) | (refine (C3.out _).mono ?_; rintro e w' ⟨rfl, rfl⟩)) | (go_at_call 92; refine (CN.out _ (Below.alloc (Below.refl _ _) (Nat.le_refl _) _)).mono ?_; rintro e w1 ⟨hb, v3, x3, rfl⟩; have hb5 := (Below.alloc (Below.refl _ _) (Nat.le_refl _) _).trans (hb.mono (by simp)); have HI1 := Lib.hid (HI.out.next hb5); have hw1 := HI1.out.size; have hw0 := Nat.lt_of_succ_lt hw1; have hsz := hb5.size; obtain ⟨g1, g2⟩ := HI1.out.facts; have e1 := (hb5.cell (p := ⟨b1, o1, none⟩) hb1').trans c1; obtain ⟨b2, o2, i2, hb2, c2, d2⟩ := HEL.out _ hb5 (k + 1) y HY.out ((k : Int) + 1) (by omega); obtain ⟨b3, o3, i3, hb3, c3, d3⟩ := HEL.out _ hb5 (k + 2) z HZ.out ((k : Int) + 1 + 1) (by omega); have hb22 := Nat.lt_of_lt_of_le hb2 hsz; have hb33 := Nat.lt_of_lt_of_le hb3 hsz; clear hb hb5) | (at_builtin; go_must (refine append_sl rfl _ _ 135 rfl (w.heap.size + 2) 154 Tryz.underlying135 infoSpan rfl (by decide) (v := .slice sa sp.length scap) (n := sp.length) (xs := sp.flatMap spanC) rfl (HI1.out.next (Below.alloc (Below.alloc (Below.alloc (Below.refl _ _) (Nat.le_refl _) _) (by simp) _) (by simp; omega) _)).own (m := 1) (news := [.int .u8 ((x.b.toNat : Nat) : Int), .int .u8 ((x.b.toNat : Nat) : Int)]) rfl (sl_made_at _ #[.int .u8 ((x.b.toNat : Nat) : Int), .int .u8 ((x.b.toNat : Nat) : Int)] _ 1 2 rfl (by unfold maxLen; omega) (by simp)) (by omega) (spans_one [(x.b, x.b)]) (by omega) (HI1.out.next (Below.alloc (Below.alloc (Below.alloc (Below.refl _ _) (Nat.le_refl _) _) (by simp) _) (by simp; omega) _)).size ?_); intro g cap1 w2 hown hgrow hlie hglt; obtain ⟨g3, g4⟩ := (HI1.out.next (Below.alloc (Below.alloc (Below.alloc (Below.refl _ _) (Nat.le_refl _) _) (by simp) _) (by simp; omega) _)).facts_grown hgrow; have HP := Lib.hid ((HI1.out.next (Below.alloc (Below.alloc (Below.alloc (Below.refl _ _) (Nat.le_refl _) _) (by simp) _) (by simp; omega) _)).push [(x.b, x.b)] rfl hown hgrow); clear hown hgrow hlie hglt))
                  go_step3
                  refine ⟨rfl, ⟨k + 1, sp ++ [(x.b, x.b)], _, by omega, by omega, by rw [List.length_append]; simp; omega, fr_intro rfl, HP.out, HR2.out⟩, ?_⟩
                  simp [intOf]; omega
                · skip
                  go_wp2_with (first | (go_at_call 69; with_reducible first | (refine (C1.out _).mono ?_; rintro e w' ⟨rfl, rfl⟩) | (refine (C2.out _).mono ?_; rintro e w' ⟨rfl, rfl⟩) | (refine (C3.out _).mono ?_; rintro e w' ⟨rfl, rfl⟩)) | (go_at_call 92; refine (CN.out _ (Below.alloc (Below.refl _ _) (Nat.le_refl _) _)).mono ?_; rintro e w1 ⟨hb, v3, x3, rfl⟩; have hb5 := (Below.alloc (Below.refl _ _) (Nat.le_refl _) _).trans (hb.mono (by simp)); have HI1 := Lib.hid (HI.out.next hb5); have hw1 := HI1.out.size; have hw0 := Nat.lt_of_succ_lt hw1; have hsz := hb5.size; obtain ⟨g1, g2⟩ := HI1.out.facts; have e1 := (hb5.cell (p := ⟨b1, o1, none⟩) hb1').trans c1; obtain ⟨b2, o2, i2, hb2, c2, d2⟩ := HEL.out _ hb5 (k + 1) y HY.out ((k : Int) + 1) (by omega); obtain ⟨b3, o3, i3, hb3, c3, d3⟩ := HEL.out _ hb5 (k + 2) z HZ.out ((k : Int) + 1 + 1) (by omega); have hb22 := Nat.lt_of_lt_of_le hb2 hsz; have hb33 := Nat.lt_of_lt_of_le hb3 hsz; clear hb hb5) | (at_builtin; go_must (refine append_sl rfl _ _ 135 rfl (w.heap.size + 2) 154 Tryz.underlying135 infoSpan rfl (by decide) (v := .slice sa sp.length scap) (n := sp.length) (xs := sp.flatMap spanC) rfl (HI1.out.next (Below.alloc (Below.alloc (Below.alloc (Below.refl _ _) (Nat.le_refl _) _) (by simp) _) (by simp; omega) _)).own (m := 1) (news := [.int .u8 ((x.b.toNat : Nat) : Int), .int .u8 ((x.b.toNat : Nat) : Int)]) rfl (sl_made_at _ #[.int .u8 ((x.b.toNat : Nat) : Int), .int .u8 ((x.b.toNat : Nat) : Int)] _ 1 2 rfl (by unfold maxLen; omega) (by simp)) (by omega) (spans_one [(x.b, x.b)]) (by omega) (HI1.out.next (Below.alloc (Below.alloc (Below.alloc (Below.refl _ _) (Nat.le_refl _) _) (by simp) _) (by simp; omega) _)).size ?_); intro g cap1 w2 hown hgrow hlie hglt; obtain ⟨g3, g4⟩ := (HI1.out.next (Below.alloc (Below.alloc (Below.alloc (Below.refl _ _) (Nat.le_refl _) _) (by simp) _) (by simp; omega) _)).facts_grown hgrow; have HP := Lib.hid ((HI1.out.next (Below.alloc (Below.alloc (Below.alloc (Below.refl _ _) (Nat.le_refl _) _) (by simp) _) (by simp; omega) _)).push [(x.b, x.b)] rfl hown hgrow); clear hown hgrow hlie hglt))
                  go_step3
                  refine ⟨rfl, ⟨k + 1, sp ++ [(x.b, x.b)], _, by omega, by omega, by rw [List.length_append]; simp; omega, fr_intro rfl, HP.out, HR2.out⟩, ?_⟩
                  simp [intOf]; omega
              | false =>
                rw [hrg] at HO
                have HR2 := Lib.hid (HO z.b rfl)
                simp at HR2
                clear HO hrg
                rcases hk5 with rfl | ⟨rfl, rfl⟩
                · skip
                  go_wp2_with (first | (go_at_call 69; with_reducible first | (refine (C1.out _).mono ?_; rintro e w' ⟨rfl, rfl⟩) | (refine (C2.out _).mono ?_; rintro e w' ⟨rfl, rfl⟩) | (refine (C3.out _).mono ?_; rintro e w' ⟨rfl, rfl⟩)) | (go_at_call 92; refine (CN.out _ (Below.alloc (Below.refl _ _) (Nat.le_refl _) _)).mono ?_; rintro e w1 ⟨hb, v3, x3, rfl⟩; have hb5 := (Below.alloc (Below.refl _ _) (Nat.le_refl _) _).trans (hb.mono (by simp)); have HI1 := Lib.hid (HI.out.next hb5); have hw1 := HI1.out.size; have hw0 := Nat.lt_of_succ_lt hw1; have hsz := hb5.size; obtain ⟨g1, g2⟩ := HI1.out.facts; have e1 := (hb5.cell (p := ⟨b1, o1, none⟩) hb1').trans c1; obtain ⟨b2, o2, i2, hb2, c2, d2⟩ := HEL.out _ hb5 (k + 1) y HY.out ((k : Int) + 1) (by omega); obtain ⟨b3, o3, i3, hb3, c3, d3⟩ := HEL.out _ hb5 (k + 2) z HZ.out ((k : Int) + 1 + 1) (by omega); have hb22 := Nat.lt_of_lt_of_le hb2 hsz; have hb33 := Nat.lt_of_lt_of_le hb3 hsz; clear hb hb5) | (at_builtin; go_must (refine append_sl rfl _ _ 135 rfl (w.heap.size + 2) 154 Tryz.underlying135 infoSpan rfl (by decide) (v := .slice sa sp.length scap) (n := sp.length) (xs := sp.flatMap spanC) rfl (HI1.out.next (Below.alloc (Below.alloc (Below.alloc (Below.refl _ _) (Nat.le_refl _) _) (by simp) _) (by simp; omega) _)).own (m := 1) (news := [.int .u8 ((x.b.toNat : Nat) : Int), .int .u8 ((z.b.toNat : Nat) : Int)]) rfl (sl_made_at _ #[.int .u8 ((x.b.toNat : Nat) : Int), .int .u8 ((z.b.toNat : Nat) : Int)] _ 1 2 rfl (by unfold maxLen; omega) (by simp)) (by omega) (spans_one [(x.b, z.b)]) (by omega) (HI1.out.next (Below.alloc (Below.alloc (Below.alloc (Below.refl _ _) (Nat.le_refl _) _) (by simp) _) (by simp; omega) _)).size ?_); intro g cap1 w2 hown hgrow hlie hglt; obtain ⟨g3, g4⟩ := (HI1.out.next (Below.alloc (Below.alloc (Below.alloc (Below.refl _ _) (Nat.le_refl _) _) (by simp) _) (by simp; omega) _)).facts_grown hgrow; have HP := Lib.hid ((HI1.out.next (Below.alloc (Below.alloc (Below.alloc (Below.refl _ _) (Nat.le_refl _) _) (by simp) _) (by simp; omega) _)).push [(x.b, z.b)] rfl hown hgrow); clear hown hgrow hlie hglt))
                  go_step3
                  refine ⟨rfl, ⟨k + 3, sp ++ [(x.b, z.b)], _, by omega, by omega, by rw [List.length_append]; simp; omega, fr_intro rfl, HP.out, HR2.out⟩, ?_⟩
                  simp [intOf]; omega
                · skip
                  go_wp2_with (first | (go_at_call 69; with_reducible first | (refine (C1.out _).mono ?_; rintro e w' ⟨rfl, rfl⟩) | (refine (C2.out _).mono ?_; rintro e w' ⟨rfl, rfl⟩) | (refine (C3.out _).mono ?_; rintro e w' ⟨rfl, rfl⟩)) | (go_at_call 92; refine (CN.out _ (Below.alloc (Below.refl _ _) (Nat.le_refl _) _)).mono ?_; rintro e w1 ⟨hb, v3, x3, rfl⟩; have hb5 := (Below.alloc (Below.refl _ _) (Nat.le_refl _) _).trans (hb.mono (by simp)); have HI1 := Lib.hid (HI.out.next hb5); have hw1 := HI1.out.size; have hw0 := Nat.lt_of_succ_lt hw1; have hsz := hb5.size; obtain ⟨g1, g2⟩ := HI1.out.facts; have e1 := (hb5.cell (p := ⟨b1, o1, none⟩) hb1').trans c1; obtain ⟨b2, o2, i2, hb2, c2, d2⟩ := HEL.out _ hb5 (k + 1) y HY.out ((k : Int) + 1) (by omega); obtain ⟨b3, o3, i3, hb3, c3, d3⟩ := HEL.out _ hb5 (k + 2) z HZ.out ((k : Int) + 1 + 1) (by omega); have hb22 := Nat.lt_of_lt_of_le hb2 hsz; have hb33 := Nat.lt_of_lt_of_le hb3 hsz; clear hb hb5) | (at_builtin; go_must (refine append_sl rfl _ _ 135 rfl (w.heap.size + 2) 154 Tryz.underlying135 infoSpan rfl (by decide) (v := .slice sa sp.length scap) (n := sp.length) (xs := sp.flatMap spanC) rfl (HI1.out.next (Below.alloc (Below.alloc (Below.alloc (Below.refl _ _) (Nat.le_refl _) _) (by simp) _) (by simp; omega) _)).own (m := 1) (news := [.int .u8 ((x.b.toNat : Nat) : Int), .int .u8 ((z.b.toNat : Nat) : Int)]) rfl (sl_made_at _ #[.int .u8 ((x.b.toNat : Nat) : Int), .int .u8 ((z.b.toNat : Nat) : Int)] _ 1 2 rfl (by unfold maxLen; omega) (by simp)) (by omega) (spans_one [(x.b, z.b)]) (by omega) (HI1.out.next (Below.alloc (Below.alloc (Below.alloc (Below.refl _ _) (Nat.le_refl _) _) (by simp) _) (by simp; omega) _)).size ?_); intro g cap1 w2 hown hgrow hlie hglt; obtain ⟨g3, g4⟩ := (HI1.out.next (Below.alloc (Below.alloc (Below.alloc (Below.refl _ _) (Nat.le_refl _) _) (by simp) _) (by simp; omega) _)).facts_grown hgrow; have HP := Lib.hid ((HI1.out.next (Below.alloc (Below.alloc (Below.alloc (Below.refl _ _) (Nat.le_refl _) _) (by simp) _) (by simp; omega) _)).push [(x.b, z.b)] rfl hown hgrow); clear hown hgrow hlie hglt))
                  go_step3
                  refine ⟨rfl, ⟨k + 3, sp ++ [(x.b, z.b)], _, by omega, by omega, by rw [List.length_append]; simp; omega, fr_intro rfl, HP.out, HR2.out⟩, ?_⟩
                  simp [intOf]; omega
            | false =>
              rw [hrg] at HO
              have HR2 := Lib.hid (HO x.b rfl)
              simp at HR2
              clear HO hrg C3
              rcases hk5 with rfl | ⟨rfl, rfl⟩
              · skip
                go_wp2_with (first | (go_at_call 69; with_reducible first | (refine (C1.out _).mono ?_; rintro e w' ⟨rfl, rfl⟩) | (refine (C2.out _).mono ?_; rintro e w' ⟨rfl, rfl⟩) | (refine (C3.out _).mono ?_; rintro e w' ⟨rfl, rfl⟩)) | (go_at_call 92; refine (CN.out _ (Below.alloc (Below.refl _ _) (Nat.le_refl _) _)).mono ?_; rintro e w1 ⟨hb, v3, x3, rfl⟩; have hb5 := (Below.alloc (Below.refl _ _) (Nat.le_refl _) _).trans (hb.mono (by simp)); have HI1 := Lib.hid (HI.out.next hb5); have hw1 := HI1.out.size; have hw0 := Nat.lt_of_succ_lt hw1; have hsz := hb5.size; obtain ⟨g1, g2⟩ := HI1.out.facts; have e1 := (hb5.cell (p := ⟨b1, o1, none⟩) hb1').trans c1; obtain ⟨b2, o2, i2, hb2, c2, d2⟩ := HEL.out _ hb5 (k + 1) y HY.out ((k : Int) + 1) (by omega); have hb22 := Nat.lt_of_lt_of_le hb2 hsz; clear hb hb5) | (at_builtin; go_must (refine append_sl rfl _ _ 135 rfl (w.heap.size + 2) 154 Tryz.underlying135 infoSpan rfl (by decide) (v := .slice sa sp.length scap) (n := sp.length) (xs := sp.flatMap spanC) rfl (HI1.out.next (Below.alloc (Below.alloc (Below.refl _ _) (Nat.le_refl _) _) (by simp) _)).own (m := 1) (news := [.int .u8 ((x.b.toNat : Nat) : Int), .int .u8 ((x.b.toNat : Nat) : Int)]) rfl (sl_made_at _ #[.int .u8 ((x.b.toNat : Nat) : Int), .int .u8 ((x.b.toNat : Nat) : Int)] _ 1 2 rfl (by unfold maxLen; omega) (by simp)) (by omega) (spans_one [(x.b, x.b)]) (by omega) (HI1.out.next (Below.alloc (Below.alloc (Below.refl _ _) (Nat.le_refl _) _) (by simp) _)).size ?_); intro g cap1 w2 hown hgrow hlie hglt; obtain ⟨g3, g4⟩ := (HI1.out.next (Below.alloc (Below.alloc (Below.refl _ _) (Nat.le_refl _) _) (by simp) _)).facts_grown hgrow; have HP := Lib.hid ((HI1.out.next (Below.alloc (Below.alloc (Below.refl _ _) (Nat.le_refl _) _) (by simp) _)).push [(x.b, x.b)] rfl hown hgrow); clear hown hgrow hlie hglt))
                go_step3
                refine ⟨rfl, ⟨k + 1, sp ++ [(x.b, x.b)], _, by omega, by omega, by rw [List.length_append]; simp; omega, fr_intro rfl, HP.out, HR2.out⟩, ?_⟩
                simp [intOf]; omega
              · skip
                go_wp2_with (first | (go_at_call 69; with_reducible first | (refine (C1.out _).mono ?_; rintro e w' ⟨rfl, rfl⟩) | (refine (C2.out _).mono ?_; rintro e w' ⟨rfl, rfl⟩) | (refine (C3.out _).mono ?_; rintro e w' ⟨rfl, rfl⟩)) | (go_at_call 92; refine (CN.out _ (Below.alloc (Below.refl _ _) (Nat.le_refl _) _)).mono ?_; rintro e w1 ⟨hb, v3, x3, rfl⟩; have hb5 := (Below.alloc (Below.refl _ _) (Nat.le_refl _) _).trans (hb.mono (by simp)); have HI1 := Lib.hid (HI.out.next hb5); have hw1 := HI1.out.size; have hw0 := Nat.lt_of_succ_lt hw1; have hsz := hb5.size; obtain ⟨g1, g2⟩ := HI1.out.facts; have e1 := (hb5.cell (p := ⟨b1, o1, none⟩) hb1').trans c1; obtain ⟨b2, o2, i2, hb2, c2, d2⟩ := HEL.out _ hb5 (k + 1) y HY.out ((k : Int) + 1) (by omega); have hb22 := Nat.lt_of_lt_of_le hb2 hsz; clear hb hb5) | (at_builtin; go_must (refine append_sl rfl _ _ 135 rfl (w.heap.size + 2) 154 Tryz.underlying135 infoSpan rfl (by decide) (v := .slice sa sp.length scap) (n := sp.length) (xs := sp.flatMap spanC) rfl (HI1.out.next (Below.alloc (Below.alloc (Below.refl _ _) (Nat.le_refl _) _) (by simp) _)).own (m := 1) (news := [.int .u8 ((x.b.toNat : Nat) : Int), .int .u8 ((x.b.toNat : Nat) : Int)]) rfl (sl_made_at _ #[.int .u8 ((x.b.toNat : Nat) : Int), .int .u8 ((x.b.toNat : Nat) : Int)] _ 1 2 rfl (by unfold maxLen; omega) (by simp)) (by omega) (spans_one [(x.b, x.b)]) (by omega) (HI1.out.next (Below.alloc (Below.alloc (Below.refl _ _) (Nat.le_refl _) _) (by simp) _)).size ?_); intro g cap1 w2 hown hgrow hlie hglt; obtain ⟨g3, g4⟩ := (HI1.out.next (Below.alloc (Below.alloc (Below.refl _ _) (Nat.le_refl _) _) (by simp) _)).facts_grown hgrow; have HP := Lib.hid ((HI1.out.next (Below.alloc (Below.alloc (Below.refl _ _) (Nat.le_refl _) _) (by simp) _)).push [(x.b, x.b)] rfl hown hgrow); clear hown hgrow hlie hglt))
                go_step3
                refine ⟨rfl, ⟨k + 1, sp ++ [(x.b, x.b)], _, by omega, by omega, by rw [List.length_append]; simp; omega, fr_intro rfl, HP.out, HR2.out⟩, ?_⟩
                simp [intOf]; omega
          · have hrg : rangeS (l.drop (k + 1)) = none := by
              cases hrg : rangeS (l.drop (k + 1)) with
              | none => rfl
              | some z => have := rangeS_len hrg; rw [List.length_drop, ← HN.out] at this; omega
            have HO := HONE.out
            rw [hrg] at HO
            have HR2 := Lib.hid (HO x.b rfl)
            simp at HR2
            have h2' : ¬ (k : Int) + 1 + 1 < n := by omega
            clear HO hrg
            rcases hk5 with rfl | ⟨rfl, rfl⟩
            · skip
              go_wp2_with (first | (go_at_call 69; with_reducible first | (refine (C1.out _).mono ?_; rintro e w' ⟨rfl, rfl⟩) | (refine (C2.out _).mono ?_; rintro e w' ⟨rfl, rfl⟩) | (refine (C3.out _).mono ?_; rintro e w' ⟨rfl, rfl⟩)) | (go_at_call 92; refine (CN.out _ (Below.alloc (Below.refl _ _) (Nat.le_refl _) _)).mono ?_; rintro e w1 ⟨hb, v3, x3, rfl⟩; have hb5 := (Below.alloc (Below.refl _ _) (Nat.le_refl _) _).trans (hb.mono (by simp)); have HI1 := Lib.hid (HI.out.next hb5); have hw1 := HI1.out.size; have hw0 := Nat.lt_of_succ_lt hw1; have hsz := hb5.size; obtain ⟨g1, g2⟩ := HI1.out.facts; have e1 := (hb5.cell (p := ⟨b1, o1, none⟩) hb1').trans c1; skip; clear hb hb5) | (at_builtin; go_must (refine append_sl rfl _ _ 135 rfl (w.heap.size + 2) 154 Tryz.underlying135 infoSpan rfl (by decide) (v := .slice sa sp.length scap) (n := sp.length) (xs := sp.flatMap spanC) rfl (HI1.out.next (Below.alloc (Below.refl _ _) (Nat.le_refl _) _)).own (m := 1) (news := [.int .u8 ((x.b.toNat : Nat) : Int), .int .u8 ((x.b.toNat : Nat) : Int)]) rfl (sl_made_at _ #[.int .u8 ((x.b.toNat : Nat) : Int), .int .u8 ((x.b.toNat : Nat) : Int)] _ 1 2 rfl (by unfold maxLen; omega) (by simp)) (by omega) (spans_one [(x.b, x.b)]) (by omega) (HI1.out.next (Below.alloc (Below.refl _ _) (Nat.le_refl _) _)).size ?_); intro g cap1 w2 hown hgrow hlie hglt; obtain ⟨g3, g4⟩ := (HI1.out.next (Below.alloc (Below.refl _ _) (Nat.le_refl _) _)).facts_grown hgrow; have HP := Lib.hid ((HI1.out.next (Below.alloc (Below.refl _ _) (Nat.le_refl _) _)).push [(x.b, x.b)] rfl hown hgrow); clear hown hgrow hlie hglt))
              go_step3
              refine ⟨rfl, ⟨k + 1, sp ++ [(x.b, x.b)], _, by omega, by omega, by rw [List.length_append]; simp; omega, fr_intro rfl, HP.out, HR2.out⟩, ?_⟩
              simp [intOf]; omega
            · skip
              go_wp2_with (first | (go_at_call 69; with_reducible first | (refine (C1.out _).mono ?_; rintro e w' ⟨rfl, rfl⟩) | (refine (C2.out _).mono ?_; rintro e w' ⟨rfl, rfl⟩) | (refine (C3.out _).mono ?_; rintro e w' ⟨rfl, rfl⟩)) | (go_at_call 92; refine (CN.out _ (Below.alloc (Below.refl _ _) (Nat.le_refl _) _)).mono ?_; rintro e w1 ⟨hb, v3, x3, rfl⟩; have hb5 := (Below.alloc (Below.refl _ _) (Nat.le_refl _) _).trans (hb.mono (by simp)); have HI1 := Lib.hid (HI.out.next hb5); have hw1 := HI1.out.size; have hw0 := Nat.lt_of_succ_lt hw1; have hsz := hb5.size; obtain ⟨g1, g2⟩ := HI1.out.facts; have e1 := (hb5.cell (p := ⟨b1, o1, none⟩) hb1').trans c1; skip; clear hb hb5) | (at_builtin; go_must (refine append_sl rfl _ _ 135 rfl (w.heap.size + 2) 154 Tryz.underlying135 infoSpan rfl (by decide) (v := .slice sa sp.length scap) (n := sp.length) (xs := sp.flatMap spanC) rfl (HI1.out.next (Below.alloc (Below.refl _ _) (Nat.le_refl _) _)).own (m := 1) (news := [.int .u8 ((x.b.toNat : Nat) : Int), .int .u8 ((x.b.toNat : Nat) : Int)]) rfl (sl_made_at _ #[.int .u8 ((x.b.toNat : Nat) : Int), .int .u8 ((x.b.toNat : Nat) : Int)] _ 1 2 rfl (by unfold maxLen; omega) (by simp)) (by omega) (spans_one [(x.b, x.b)]) (by omega) (HI1.out.next (Below.alloc (Below.refl _ _) (Nat.le_refl _) _)).size ?_); intro g cap1 w2 hown hgrow hlie hglt; obtain ⟨g3, g4⟩ := (HI1.out.next (Below.alloc (Below.refl _ _) (Nat.le_refl _) _)).facts_grown hgrow; have HP := Lib.hid ((HI1.out.next (Below.alloc (Below.refl _ _) (Nat.le_refl _) _)).push [(x.b, x.b)] rfl hown hgrow); clear hown hgrow hlie hglt))
              go_step3
              refine ⟨rfl, ⟨k + 1, sp ++ [(x.b, x.b)], _, by omega, by omega, by rw [List.length_append]; simp; omega, fr_intro rfl, HP.out, HR2.out⟩, ?_⟩
              simp [intOf]; omega
    · obtain rfl : k = n := by omega
      have hR : R = none := by rw [HRR.out, List.drop_of_length_le (by rw [← HN.out]; omega), setS_nil]
      subst hR
      go_wp2_with fail
      simp only [Exit.jump]
      have hfin := (((HI.out.res.put 0 (.int .u8 0)).put 1 (.int .u8 0)).put 2 (.bool false)).put 3 (.slice none 0 0)
      refine bodyPost_ret (set_results rfl hfin) rfl ⟨?_, rfl⟩
      have hb := HI.out.bel
      exact (((hb.setCell (p := ⟨w.heap.size, 0, none⟩) (Nat.le_refl _) _).setCell (p := ⟨w.heap.size, 1, none⟩) (Nat.le_refl _) _).setCell (p := ⟨w.heap.size, 2, none⟩) (Nat.le_refl _) _).setCell (p := ⟨w.heap.size, 3, none⟩) (Nat.le_refl _) _
  · intro hR
    by_cases h0 : 0 < n
    · obtain ⟨x, hx⟩ : ∃ x, l[0]? = some x := ⟨_, List.getElem?_eq_getElem (by rw [← HN.out]; omega)⟩
      obtain ⟨t, ht⟩ : ∃ t, l = x :: t := by
        cases l with
        | nil => simp at hx
        | cons y t => simp at hx; exact ⟨t, by rw [hx]⟩
      have hl0 := HL0.out
      rw [HN.out] at hl0
      obtain ⟨b1, o1, i1, hb1, c1, d1⟩ := sg_at hl0 hx 0 rfl
      rw [← HN.out] at i1
      have hb3 : ∀ p q r : Obj, Below w.heap.size w (((w.alloc p).alloc q).alloc r) := fun p q r => Below.alloc (Below.alloc (Below.alloc (Below.refl _ _) (Nat.le_refl _) _) (by simp) _) (by simp; omega) _
      have c3 : ∀ p q r : Obj, (((w.alloc p).alloc q).alloc r).cell? ⟨b1, o1, none⟩ = some (.int .u8 ((x.b.toNat : Nat) : Int)) := fun p q r => ((hb3 p q r).cell (p := ⟨b1, o1, none⟩) hb1).trans c1
      have d3 : ∀ p q r : Obj, (((w.alloc p).alloc q).alloc r).cell? ⟨b1, o1 + 1, none⟩ = some (.bool x.q) := fun p q r => ((hb3 p q r).cell (p := ⟨b1, o1 + 1, none⟩) hb1).trans d1
      clear hb3
      obtain ⟨q1, hq1⟩ : ∃ r, isb x 33 = r := ⟨_, rfl⟩
      obtain ⟨q2, hq2⟩ : ∃ r, isb x 94 = r := ⟨_, rfl⟩
      have C1 := is_at x 33 q1 hq1 33 rfl
      have C2 := is_at x 94 q2 hq2 94 rfl
      have hng : neg = (q1 || q2) := by rw [HNEG.out, ht, notS, hq1, hq2]
      have hf : f0 = if neg then 1 else 0 := by rw [HF.out, off0, HNEG.out]
      clear hl0 hx ht hq1 hq2
      cases q1 with
      | true =>
        obtain rfl : neg = true := by rw [hng]; rfl
        obtain rfl : f0 = 1 := by rw [hf]; rfl
        clear hng hf
        go_wp2_with (go_at_call 69; with_reducible first | (refine (C1.out _).mono ?_; rintro e w' ⟨rfl, rfl⟩) | (refine (C2.out _).mono ?_; rintro e w' ⟨rfl, rfl⟩))
        go_step3
        go_step
        go_step
        exact hR.out _ _ ⟨1, [], .slice none 0 0, by omega, Nat.le_refl _, Nat.zero_le _, fr_intro rfl, (PInv.start w true).next (Below.alloc (Below.refl _ _) (Nat.le_refl _) _), by rw [HR.out]; simp⟩
      | false =>
        cases q2 with
        | true =>
          obtain rfl : neg = true := by rw [hng]; rfl
          obtain rfl : f0 = 1 := by rw [hf]; rfl
          clear hng hf
          go_wp2_with (go_at_call 69; with_reducible first | (refine (C1.out _).mono ?_; rintro e w' ⟨rfl, rfl⟩) | (refine (C2.out _).mono ?_; rintro e w' ⟨rfl, rfl⟩))
          go_step3
          go_step
          go_step
          exact hR.out _ _ ⟨1, [], .slice none 0 0, by omega, Nat.le_refl _, Nat.zero_le _, fr_intro rfl, (PInv.start w true).next (Below.alloc (Below.alloc (Below.refl _ _) (Nat.le_refl _) _) (by simp) _), by rw [HR.out]; simp⟩
        | false =>
          obtain rfl : neg = false := by rw [hng]; rfl
          obtain rfl : f0 = 0 := by rw [hf]; rfl
          clear hng hf
          go_wp2_with (go_at_call 69; with_reducible first | (refine (C1.out _).mono ?_; rintro e w' ⟨rfl, rfl⟩) | (refine (C2.out _).mono ?_; rintro e w' ⟨rfl, rfl⟩))
          go_step3
          go_step
          go_step
          exact hR.out _ _ ⟨0, [], .slice none 0 0, by omega, Nat.le_refl _, Nat.zero_le _, fr_intro rfl, (PInv.start w false).next (Below.alloc (Below.alloc (Below.refl _ _) (Nat.le_refl _) _) (by simp) _), by rw [HR.out]; simp⟩
    · obtain rfl : n = 0 := by omega
      have hl0 : l = [] := List.length_eq_zero_iff.1 HN.out.symm
      obtain rfl : neg = false := by rw [HNEG.out, hl0]; rfl
      obtain rfl : f0 = 0 := by rw [HF.out, hl0]; rfl
      clear hl0
      go_wp2_with fail
      go_step3
      go_step
      go_step
      exact hR.out _ _ ⟨0, [], .slice none 0 0, by omega, Nat.le_refl _, Nat.zero_le _, fr_intro rfl, PInv.start w false, by rw [HR.out]; simp⟩
end Go.Proofs.YtjeinpadcknfbaaGreatDoor
/-
  All signs of some pieces: the walk.
-/
namespace Go.Proofs.YtjeinpadcknfbaaGreatDoor
open Go.RowKit

/-- A piece of a pattern. -/
structure Pc where
  t : ByteArray
  q : Bool
def pcC (p : Pc) : List Value := [.string p.t, .bool p.q]
theorem pcC_len (p : Pc) : (pcC p).length = 2 := rfl
def signsP (p : Pc) : List Sg := (L p.t).map fun b => ⟨b, p.q⟩
def signsOf (l : List Pc) : List Sg := l.flatMap signsP

theorem signs_take {l : List Pc} {k : Nat} {p : Pc} (h : l[k]? = some p) : signsOf (l.take (k + 1)) = signsOf (l.take k) ++ signsP p := by
  obtain ⟨hk, e⟩ := List.getElem?_eq_some_iff.1 h
  rw [List.take_succ_eq_append_getElem hk, e]
  simp [signsOf]
theorem signs_le (l : List Pc) (k : Nat) : (signsOf (l.take k)).length ≤ (signsOf l).length := by
  have e : signsOf l = signsOf (l.take k) ++ signsOf (l.drop k) := by
    unfold signsOf
    rw [← List.flatMap_append, List.take_append_drop]
  rw [e, List.length_append]; omega
theorem signsP_take (p : Pc) {j : Nat} (h : j < (L p.t).length) : (signsP p).take (j + 1) = (signsP p).take j ++ [⟨(L p.t).getD j 0, p.q⟩] := by
  rw [List.take_succ_eq_append_getElem (by simpa [signsP] using h)]
  simp [signsP, List.getD, h]

/-- An element of a slice of pieces. -/
theorem pc_at {w : World} {B : Nat} {v : Value} {l : List Pc} (h : Sl w B 2 v l.length (l.flatMap pcC)) {k : Nat} {x : Pc} (hx : l[k]? = some x) (i : Int) (hi : i = k) :
    ∃ b o, (∀ w' : World, (Instr.indexAt 69 v (.int .i64 i)).run Tryz.prog w' = .ok (.pointer (some ⟨b, o, none⟩)) w') ∧ b < B ∧ w.cell? ⟨b, o, none⟩ = some (.string x.t) ∧ w.cell? ⟨b, o + 1, none⟩ = some (.bool x.q) := by
  subst hi
  have hk := (List.getElem?_eq_some_iff.1 hx).1
  obtain ⟨a, cap, b, off, rfl, _, _, h1, h2, h3⟩ := h.open (P := Tryz.prog) 69 101 Tryz.underlying69 (by kernel_rfl)
  have g := flat_get pcC 2 pcC_len l k x hx
  refine ⟨b, off + k * 2, fun w' => h1 k w' hk, by omega, ?_, ?_⟩
  · rw [show off + k * 2 = off + (k * 2 + 0) by omega, h3 _ (by omega), g 0 (by omega)]; rfl
  · rw [show off + k * 2 + 1 = off + (k * 2 + 1) by omega, h3 _ (by omega), g 1 (by omega)]; rfl

theorem BytesAt.grown {w w' : World} {b : Nat} {bl : List UInt8} (h : BytesAt w b bl) {row : Option Nat} (hg : w.grownBy w' row) (hb : b < w.heap.size) (hr : row ≠ some b) : BytesAt w' b bl := fun j hj => by
  have e := hg.block b hb (fun e => hr e.symm)
  rw [World.cell?_of_block e, World.frozen?_of_block e]; exact h j hj

theorem infoSign : (Tryz.prog.info? 134).map (fun i => (i.zero, i.size, i.bytes)) = some (some (.agg #[.int .u8 0, .bool false]), 2, 2) := by kernel_rfl

def SignsPost (s : List Sg) (w : World) (e : Ending) (w' : World) : Prop := Below w.heap.size w w' ∧ ∃ v, e = .returned v ∧ w'.ownsRow w.heap.size 134 2 v s.length (s.flatMap sgC)

theorem signs_one (sp : List Sg) : ∀ u ∈ sp.flatMap sgC, u.oneCell' = true := by
  intro u hu
  obtain ⟨s, _, hs⟩ := List.mem_flatMap.1 hu
  simp [sgC] at hs
  rcases hs with rfl | rfl <;> rfl

theorem own_ne_new {w : World} {base : Nat} {e : TypeId} {size : Nat} {v : Value} {n : Nat} {xs : List Value} (h : w.ownsRow base e size v n xs) {g : Nat} (hg : w.heap.size ≤ g) : v.ownBlock ≠ some g := fun e => by
  have := (World.ownsRow.lt h g e).2
  omega

/-- While a piece's bytes are taken up. -/
structure SigIn (w wi : World) (g h : Nat) (p : Pc) (v3 : Value) (done : List Sg) : Prop where
  own : wi.ownsRow w.heap.size 134 2 v3 done.length (done.flatMap sgC)
  bel : Below w.heap.size w wi
  box : Blk wi g 101 #[.string p.t, .bool p.q]
  byt : BytesAt wi h (L p.t)
  g0 : w.heap.size ≤ g
  h0 : w.heap.size ≤ h
  hh : h < wi.heap.size
  og : v3.ownBlock ≠ some g
  oh : v3.ownBlock ≠ some h

theorem SigIn.push {w wi w1 : World} {g h : Nat} {p : Pc} {v3 : Value} {done : List Sg} (hI : SigIn w wi g h p v3 done) (o : Obj) (s : Sg) {g' cap n : Nat} (hn : n = done.length) (hown : w1.ownsRow w.heap.size 134 2 (.slice (some ⟨g', 0, none⟩) (n + 1) cap) (n + 1) (done.flatMap sgC ++ [s].flatMap sgC))
    (hg : (wi.alloc o).grownBy w1 v3.ownBlock) (hl : v3.ownBlock = some g' ∨ g' = (wi.alloc o).heap.size) (hgw : g < wi.heap.size) : SigIn w w1 g h p (.slice (some ⟨g', 0, none⟩) (n + 1) cap) (done ++ [s]) := by
  have hh := hI.hh
  have hb := hI.bel.size
  have ho := hI.own.alloc o
  have hne : ∀ x, v3.ownBlock ≠ some x → x < wi.heap.size → (Value.slice (some ⟨g', 0, none⟩) (n + 1) cap).ownBlock ≠ some x := fun x h1 h2 e => by
    simp [Value.ownBlock] at e
    subst e
    rcases hl with hl | hl
    · exact h1 hl
    · simp at hl; omega
  have hz := hg.size
  simp at hz
  refine ⟨?_, (hI.bel.alloc (by omega) o).grown hg (by simp; omega) fun k hk => (World.ownsRow.lt hI.own k hk).1, (hI.box.alloc o).grown hg hI.og, (hI.byt.below (Below.alloc (Below.refl _ _) (Nat.le_refl _) o) hh).grown hg (by simp; omega) hI.oh, hI.g0, hI.h0, by omega, hne _ hI.og hgw, hne _ hI.oh hh⟩
  rw [List.length_append, ← hn, List.flatMap_append]
  exact hown

set_option maxHeartbeats 2000000 in
theorem signs_any (l : List Pc) (v : Value) (w : World) (hl : Sl w w.heap.size 2 v l.length (l.flatMap pcC)) (hn : (signsOf l).length ≤ 100000) :
    Calls Tryz.prog 68 #[v] w (SignsPost (signsOf l) w) := by
  obtain ⟨n, hnl⟩ : ∃ n, n = l.length := ⟨_, rfl⟩
  rw [← hnl] at hl
  have hnm := hl.len
  unfold maxLen at hnm
  obtain ⟨a, cap, rfl⟩ : ∃ a cap, v = .slice a n cap := by
    obtain ⟨_, a, cap, h, _⟩ := hl
    exact ⟨a, cap, h⟩
  have HL := Lib.hid hl
  have HN := Lib.hid hnl
  have HS := Lib.hid hn
  clear hl hnl hn
  go_enter Tryz.func68, Tryz.ntmps68
  go_wp2_with fail
  go_loopw [3, 10] (fun v3 i wr => ∃ k : Nat, k ≤ n ∧ i = .int .i64 k ∧ wr.ownsRow w.heap.size 134 2 v3 (signsOf (l.take k)).length ((signsOf (l.take k)).flatMap sgC) ∧ Below w.heap.size w wr) (fun _ i _ => n - (intOf i).toNat)
  case atStart => exact ⟨0, Nat.zero_le _, rfl, World.ownsRow_nil _ _ _ _, Below.refl _ _⟩
  case round =>
    obtain ⟨k, hk, rfl, hown, hb⟩ := hrel
    obtain ⟨wo, rfl⟩ : ∃ wo : World, wo = wr := ⟨_, rfl⟩
    have hsz := hb.size
    by_cases hlt : k < n
    · obtain ⟨x, hx⟩ : ∃ x, l[k]? = some x := ⟨_, List.getElem?_eq_getElem (by rw [← HN.out]; omega)⟩
      have hl1 := HL.out.below hb
      rw [HN.out] at hl1
      obtain ⟨b1, o1, i1, hb1, c1, d1⟩ := pc_at hl1 hx (k : Int) rfl
      rw [← HN.out] at i1
      have hb1' : b1 < wo.heap.size := by omega
      have hst := Lib.hid (signs_take hx)
      have hle := signs_le l (k + 1)
      have HLE := Lib.hid (Nat.le_trans hle HS.out)
      obtain ⟨t, q⟩ := x
      obtain ⟨d0, hd0⟩ : ∃ d0, d0 = signsOf (l.take k) := ⟨_, rfl⟩
      rw [← hd0] at hown hst
      have htl : t.size = (L t).length := rfl
      have hl0 := own_ne hown (g := wo.heap.size)
      have hts : t.size ≤ 100000 := by
        have h1 := HLE.out
        rw [hst.out, List.length_append, signsP, List.length_map] at h1
        simp only at h1
        omega
      have HOWN := Lib.hid hown
      have HB := Lib.hid hb
      have HX := Lib.hid hx
      clear hl1 hx hle hown hb hd0 htl hl0
      go_wp2_with fail
      go_loopw [3, 18] (fun v3 j wi => ∃ m : Nat, m ≤ t.size ∧ j = .int .i64 m ∧ SigIn w wi wo.heap.size (wo.heap.size + 1) ⟨t, q⟩ v3 (d0 ++ (signsP ⟨t, q⟩).take m)) (fun _ j _ => t.size - (intOf j).toNat)
      case atStart =>
        refine ⟨0, Nat.zero_le _, rfl, ?_⟩
        have h1 := Blk.new wo 101 #[.string t, .bool q]
        have hbw := below_bytesWorld (wo.alloc (.cells #[.string t, .bool q] 101)) 5 t
        have hby := BytesAt.made (wo.alloc (.cells #[.string t, .bool q] 101)) 5 t
        rw [show (wo.alloc (.cells #[.string t, .bool q] 101)).heap.size = wo.heap.size + 1 by simp] at hbw hby
        have hz := Lib.bytesWorld_size (wo.alloc (.cells #[.string t, .bool q] 101)) 5 t
        simp at hz
        have hba := Below.alloc (Below.refl wo.heap.size wo) (Nat.le_refl _) (.cells #[.string t, .bool q] 101)
        rw [List.take_zero, List.append_nil]
        exact ⟨own_below HOWN.out (hba.trans (hbw.mono (by omega))), HB.out.trans ((hba.trans (hbw.mono (by omega))).mono (by omega)), h1.below hbw (by omega), hby, by omega, by omega, by omega, own_ne_new HOWN.out (by omega), own_ne_new HOWN.out (by omega)⟩
      case round =>
        obtain ⟨m, hm, rfl, HI0⟩ := hrel
        obtain ⟨wi, rfl⟩ : ∃ wi : World, wi = wr := ⟨_, rfl⟩
        by_cases hm1 : m < t.size
        · have HI := Lib.hid HI0
          have hbt := (HI0.byt m hm1).1
          have hbx := HI0.box.cell 1
          simp at hbx
          have hst2 := signsP_take ⟨t, q⟩ (j := m) hm1
          simp only at hst2 hbt
          obtain ⟨bb, hbb⟩ : ∃ bb, bb = (L t).getD m 0 := ⟨_, rfl⟩
          rw [← hbb] at hst2 hbt
          have HST := Lib.hid hst2
          obtain ⟨sa, scap, rfl⟩ := own_shape HI0.own
          obtain ⟨c, hc⟩ : ∃ c, c = (d0 ++ (signsP ⟨t, q⟩).take m).length := ⟨_, rfl⟩
          have hcb : c ≤ 100000 := by
            have h1 := HLE.out
            rw [hst.out, List.length_append] at h1
            rw [hc, List.length_append, List.length_take]
            omega
          have how := HI0.own
          rw [← hc] at HI how
          have HOW := Lib.hid how
          have HC := Lib.hid hc
          have hg0 := HI0.box.lt
          have hbs := HI0.bel.size
          have hh0 := HI0.hh
          rw [← hc]
          clear HI0 hst2 hbb hc how
          go_wp2_with (at_builtin; go_must (refine append_sl rfl _ _ 131 rfl w.heap.size 134 Tryz.underlying131 infoSign rfl (by decide) (v := .slice sa c scap) (n := c) (xs := (d0 ++ (signsP ⟨t, q⟩).take m).flatMap sgC) rfl (HOW.out.alloc _) (m := 1) (news := [.int .u8 ((bb.toNat : Nat) : Int), .bool q]) rfl (sl_made_at wi #[.int .u8 ((bb.toNat : Nat) : Int), .bool q] _ 1 2 rfl (by unfold maxLen; omega) rfl) (by omega) (signs_one [⟨bb, q⟩]) (by omega) (by simp; omega) ?_); intro g cap1 w2 hown hgrow hlie hglt; have HP := Lib.hid (HI.out.push _ ⟨bb, q⟩ HC.out hown hgrow hlie hg0); clear hown hgrow hlie hglt)
          go_roundw
          case rel => exact ⟨m + 1, by omega, by go_num, by rw [HST.out, ← List.append_assoc]; exact HP.out⟩
          case measure => simp [intOf]; omega
        · obtain rfl : m = t.size := by omega
          go_wp2_with fail
          go_roundw
          case rel =>
            refine ⟨k + 1, by omega, by go_num, ?_, HI0.bel⟩
            have h1 := HI0.own
            rw [List.take_of_length_le (by simp [signsP, L_size])] at h1
            rw [hst.out]
            exact h1
          case measure => simp [intOf]; omega
    · obtain rfl : k = n := by omega
      go_wp2_with fail
      go_ret
      rw [List.take_of_length_le (by rw [← HN.out]; omega)] at hown
      exact ⟨hb, _, rfl, hown⟩
end Go.Proofs.YtjeinpadcknfbaaGreatDoor
/-
  A pattern in memory; Compile: the walk.
-/
namespace Go.Proofs.YtjeinpadcknfbaaGreatDoor
open Go.RowKit

/-- The cells of a part whose set lies at a slice. -/
abbrev Pv := Pt × Value
def ptC (x : Pv) : List Value := [.int .u8 ((x.1.kind.toNat : Nat) : Int), .int .u8 ((x.1.b.toNat : Nat) : Int), .bool x.1.neg, x.2]
theorem ptC_len (x : Pv) : (ptC x).length = 4 := rfl
/-- A slice of parts, below block B. -/
def PatAt (w : World) (B : Nat) (v : Value) (l : List Pt) : Prop := ∃ ps : List Pv, ps.map (·.1) = l ∧ Sl w B 4 v l.length (ps.flatMap ptC) ∧ ∀ x ∈ ps, Sl w B 2 x.2 x.1.set.length (x.1.set.flatMap spanC)
theorem PatAt.below {w w' : World} {B : Nat} {v : Value} {l : List Pt} (h : PatAt w B v l) (hb : Below B w w') : PatAt w' B v l := by
  obtain ⟨ps, h1, h2, h3⟩ := h
  exact ⟨ps, h1, h2.below hb, fun x hx => (h3 x hx).below hb⟩
theorem PatAt.mono {w : World} {B B' : Nat} {v : Value} {l : List Pt} (h : PatAt w B v l) (hB : B ≤ B') : PatAt w B' v l := by
  obtain ⟨ps, h1, h2, h3⟩ := h
  exact ⟨ps, h1, h2.mono hB, fun x hx => (h3 x hx).mono hB⟩

/-- A pattern that the call has made, in blocks from base on. -/
def PatOwn (w : World) (base : Nat) (v : Value) (l : List Pt) : Prop := ∃ ps : List Pv, ps.map (·.1) = l ∧ w.ownsRow base 137 4 v l.length (ps.flatMap ptC) ∧ ∀ x ∈ ps, w.ownsRow base 154 2 x.2 x.1.set.length (x.1.set.flatMap spanC)
theorem PatOwn.at_ {w : World} {base : Nat} {v : Value} {l : List Pt} (h : PatOwn w base v l) : PatAt w w.heap.size v l := by
  obtain ⟨ps, h1, h2, h3⟩ := h
  exact ⟨ps, h1, Sl.of_own h2, fun x hx => Sl.of_own (h3 x hx)⟩
theorem PatOwn.far {w : World} {base : Nat} {v : Value} {l : List Pt} (h : PatOwn w base v l) {p : Addr} (hp : p.block < base) (u : Value) : PatOwn (w.setCell p u) base v l := by
  obtain ⟨ps, h1, h2, h3⟩ := h
  exact ⟨ps, h1, own_far h2 hp u, fun x hx => own_far (h3 x hx) hp u⟩
theorem PatOwn.from {w : World} {base base' : Nat} {v : Value} {l : List Pt} (h : PatOwn w base v l) (hB : base' ≤ base) : PatOwn w base' v l := by
  obtain ⟨ps, h1, h2, h3⟩ := h
  exact ⟨ps, h1, own_from h2 hB, fun x hx => own_from (h3 x hx) hB⟩

/-- While a pattern is compiled. -/
structure CInv (w wr : World) (v4 pv : Value) (sl : List Sg) (ps : List Pv) : Prop where
  res : Blk wr w.heap.size 97 #[.slice none 0 0]
  out : Blk wr (w.heap.size + 1) 97 #[pv]
  own : wr.ownsRow (w.heap.size + 2) 137 4 pv ps.length (ps.flatMap ptC)
  sets : ∀ x ∈ ps, wr.ownsRow (w.heap.size + 2) 154 2 x.2 x.1.set.length (x.1.set.flatMap spanC) ∧ (x.2.ownBlock = none ∨ x.2.ownBlock ≠ pv.ownBlock)
  sgs : wr.ownsRow (w.heap.size + 2) 134 2 v4 sl.length (sl.flatMap sgC)
  sgn : v4.ownBlock = none ∨ v4.ownBlock ≠ pv.ownBlock
  bel : Below w.heap.size w wr

section
variable {w wr : World} {v4 pv : Value} {sl : List Sg} {ps : List Pv}
theorem CInv.size (h : CInv w wr v4 pv sl ps) : w.heap.size + 1 < wr.heap.size := h.out.lt
theorem CInv.next (h : CInv w wr v4 pv sl ps) {w' : World} (hb : Below wr.heap.size wr w') : CInv w w' v4 pv sl ps := by
  have := h.size
  exact ⟨h.res.below hb (by omega), h.out.below hb (by omega), own_below h.own hb, fun x hx => ⟨own_below (h.sets x hx).1 hb, (h.sets x hx).2⟩, own_below h.sgs hb, h.sgn, h.bel.trans (hb.mono (by omega))⟩
theorem CInv.push (h : CInv w wr v4 pv sl ps) {w5 w1 : World} (hb : Below wr.heap.size wr w5) (x : Pv) (hx : w5.ownsRow wr.heap.size 154 2 x.2 x.1.set.length (x.1.set.flatMap spanC)) {g n cap : Nat} (hn : n = ps.length)
    (hown : w1.ownsRow (w.heap.size + 2) 137 4 (.slice (some ⟨g, 0, none⟩) (n + 1) cap) (n + 1) (ps.flatMap ptC ++ ptC x)) (hg : w5.grownBy w1 pv.ownBlock) (hl : pv.ownBlock = some g ∨ g = w5.heap.size) :
    CInv w (w1.setCell ⟨w.heap.size + 1, 0, none⟩ (.slice (some ⟨g, 0, none⟩) (n + 1) cap)) v4 (.slice (some ⟨g, 0, none⟩) (n + 1) cap) sl (ps ++ [x]) := by
  have hz := h.size
  have h5 := h.next hb
  have hz5 := hb.size
  have old : ∀ v : Value, (v.ownBlock = none ∨ v.ownBlock ≠ pv.ownBlock) → (∀ k, v.ownBlock = some k → k < w5.heap.size) → v.ownBlock = none ∨ v.ownBlock ≠ (Value.slice (some ⟨g, 0, none⟩) (n + 1) cap).ownBlock := fun v h1 h2 => by
    rcases h1 with h1 | h1
    · exact .inl h1
    · right
      show v.ownBlock ≠ some g
      rcases hl with hl | hl
      · rw [← hl]; exact h1
      · intro e; have := h2 g e; omega
  refine ⟨(h5.res.grown hg (own_ne h5.own (by omega))).far (by simp) _, (h5.out.grown hg (own_ne h5.own (by omega))).put 0 _, own_far ?_ (by simp) _, ?_, own_far (h5.sgs.kept hg h5.sgn) (by simp) _, old _ h5.sgn fun k hk => (h5.sgs.lt k hk).2, (h5.bel.grown hg (by omega) fun k hk => by have := (World.ownsRow.lt h5.own k hk).1; omega).setCell (by simp) _⟩
  · rw [List.length_append, ← hn, List.flatMap_append, List.flatMap_cons, List.flatMap_nil, List.append_nil]
    exact hown
  · intro y hy
    rcases List.mem_append.1 hy with hy | hy
    · obtain ⟨s1, s2⟩ := h5.sets y hy
      exact ⟨own_far (s1.kept hg s2) (by simp) _, old _ s2 fun k hk => (s1.lt k hk).2⟩
    · obtain rfl : y = x := by simpa using hy
      have hne : y.2.ownBlock = none ∨ y.2.ownBlock ≠ pv.ownBlock := by
        cases e : y.2.ownBlock with
        | none => exact .inl rfl
        | some k =>
          right
          intro e2
          have h1 := (hx.lt k e).1
          have h2 := (h.own.lt k e2.symm).2
          omega
      exact ⟨own_from (own_far (hx.kept hg hne) (by simp; omega) _) (by omega), old _ hne fun k hk => (hx.lt k hk).2⟩
theorem CInv.pat (h : CInv w wr v4 pv sl ps) (v : Value) : PatOwn (wr.setCell ⟨w.heap.size, 0, none⟩ v) w.heap.size pv (ps.map (·.1)) := by
  refine ⟨ps, rfl, ?_, fun x hx => ?_⟩
  · rw [List.length_map]
    exact own_from (own_far (p := ⟨w.heap.size, 0, none⟩) h.own (by show w.heap.size < _; omega) v) (by omega)
  · exact own_from (own_far (p := ⟨w.heap.size, 0, none⟩) (h.sets x hx).1 (by show w.heap.size < _; omega) v) (by omega)
end
theorem CInv.start (w w' : World) {v4 : Value} {sl : List Sg} {n : Nat} (hn : n = sl.length) (hb : Below (w.heap.size + 2) ((w.alloc (.cells #[.slice none 0 0] 97)).alloc (.cells #[.slice none 0 0] 97)) w') (ho : w'.ownsRow (w.heap.size + 2) 134 2 v4 n (sl.flatMap sgC)) :
    CInv w w' v4 (.slice none 0 0) sl [] := by
  subst hn
  have h1 := Blk.new (w.alloc (.cells #[.slice none 0 0] 97)) 97 #[.slice none 0 0]
  rw [show (w.alloc (.cells #[.slice none 0 0] 97)).heap.size = w.heap.size + 1 by simp] at h1
  have h0 := (Blk.new w 97 #[.slice none 0 0]).alloc (.cells #[.slice none 0 0] 97)
  refine ⟨h0.below hb (by omega), h1.below hb (by omega), World.ownsRow_nil _ _ _ _, by simp, ho, ?_, (Below.alloc (Below.alloc (Below.refl _ _) (Nat.le_refl _) _) (by simp) _).trans (hb.mono (by omega))⟩
  cases h : v4.ownBlock with
  | none => exact .inl rfl
  | some k => right; simp [Value.ownBlock]

theorem infoPart : (Tryz.prog.info? 137).map (fun i => (i.zero, i.size, i.bytes)) = some (some (.agg #[.int .u8 0, .int .u8 0, .bool false, .slice none 0 0]), 4, 32) := by kernel_rfl

theorem pts_one (x : Pv) (h : x.2.oneCell' = true) : ∀ u ∈ ptC x, u.oneCell' = true := by
  intro u hu
  simp [ptC] at hu
  rcases hu with rfl | rfl | rfl | rfl
  · rfl
  · rfl
  · rfl
  · exact h

def CompPost (l : List Pt) (w : World) (e : Ending) (w' : World) : Prop := Below w.heap.size w w' ∧ ∃ v, e = .returned (.agg #[v]) ∧ PatOwn w' w.heap.size v l
end Go.Proofs.YtjeinpadcknfbaaGreatDoor
/-
  Compile: the walk.
-/
namespace Go.Proofs.YtjeinpadcknfbaaGreatDoor
open Go.RowKit

attribute [go_sem] partC

theorem CInv.facts_grown {w wr w5 w1 : World} {v4 pv : Value} {sl : List Sg} {ps : List Pv} (h : CInv w wr v4 pv sl ps) (hb : Below wr.heap.size wr w5) (hg : w5.grownBy w1 pv.ownBlock) :
    w1.cell? ⟨w.heap.size + 1, 0, none⟩ = some pv ∧ w1.frozen? ⟨w.heap.size + 1, 0, none⟩ = false := by
  have h5 := h.next hb
  have h6 := h5.out.grown hg (own_ne h5.own (by omega))
  exact ⟨by rw [h6.cell 0]; rfl, h6.free 0⟩

theorem CInv.own_at {w wr w5 : World} {v4 pv : Value} {sl : List Sg} {ps : List Pv} (h : CInv w wr v4 pv sl ps) {m : Nat} (hm : m = ps.length) (hb : Below wr.heap.size wr w5) : w5.ownsRow (w.heap.size + 2) 137 4 pv m (ps.flatMap ptC) := by
  subst hm
  exact (h.next hb).own

theorem comp_len_aux : ∀ (n : Nat) (l : List Sg), l.length ≤ n → (comp l).length ≤ l.length
  | _, [], _ => by rw [comp_nil]; simp
  | 0, _ :: _, h => by simp at h
  | n + 1, c :: t, h => by
    simp at h
    cases h1 : (isb c 63 || isb c 42) with
    | true => rw [comp_sign h1]; have := comp_len_aux n t h; simp; omega
    | false =>
      cases h2 : isb c 91 with
      | false => rw [comp_byte h1 (by rw [h2]; simp)]; have := comp_len_aux n t h; simp; omega
      | true =>
        cases h3 : setP t with
        | none => rw [comp_byte h1 (fun _ => h3)]; have := comp_len_aux n t h; simp; omega
        | some x =>
          obtain ⟨p, m⟩ := x
          rw [comp_set h2 h3]
          have := comp_len_aux n (t.drop m) (by simp; omega)
          simp at this ⊢; omega

/-- What Compile returns: the pattern in its block. -/
theorem comp_results {w : World} {b : Nat} {tmps : Array Value} {pv : Value} (h2 : tmps[2]?.getD undef = .pointer (some ⟨b, 0, none⟩)) (h : Blk w b 97 #[pv]) :
    (results Tryz.f41 tmps).run Tryz.prog w = .ok (.agg #[pv]) w := by
  have q0 := h.cell 0
  simp at q0
  simp [results, Tryz.results41, go_sem, h2, q0]

theorem setP_of {t : List Sg} {R : Option (List Span × Nat)} (h : setS true (off0 t) [] (t.drop (off0 t)) = R) : setP t = R.map fun x => (⟨91, 0, notS t, x.1⟩, x.2) := by
  have e : (if notS t then t.drop 1 else t) = t.drop (off0 t) := by
    unfold off0
    cases notS t <;> rfl
  unfold setP
  rw [e]
  show (match setS true (off0 t) [] (t.drop (off0 t)) with
    | some (sp, k) => some (⟨91, 0, notS t, sp⟩, k)
    | none => none : Option (Pt × Nat)) = _
  rw [h]
  cases R <;> rfl

set_option maxHeartbeats 4000000 in
set_option maxRecDepth 100000 in
theorem comp_any (l : List Pc) (v : Value) (w : World) (hl : Sl w w.heap.size 2 v l.length (l.flatMap pcC)) (hn : (signsOf l).length ≤ 100000) :
    Calls Tryz.prog 41 #[v] w (CompPost (comp (signsOf l)) w) := by
  obtain ⟨sl, hsl⟩ : ∃ sl, sl = signsOf l := ⟨_, rfl⟩
  have CSg : Hid (∀ W, Below w.heap.size w W → Calls Tryz.prog 68 #[v] W (SignsPost sl W)) := Lib.hid fun W hW => by rw [hsl]; exact signs_any l v W ((hl.below hW).mono hW.size) hn
  rw [← hsl] at hn ⊢
  obtain ⟨R, hR⟩ : ∃ R, R = comp sl := ⟨_, rfl⟩
  rw [← hR]
  obtain ⟨n, hnl⟩ : ∃ n, n = sl.length := ⟨_, rfl⟩
  rw [← hnl] at hn
  have HR := Lib.hid hR
  have HN := Lib.hid hnl
  clear hl hsl hR hnl
  go_enter Tryz.func41, Tryz.ntmps41
  go_wp2_with fail
  refine wp_scope_again 0 (fun a' w' => ∃ (k : Nat) (ps : List Pv) (pv : Value) (a4 : Option Addr) (c4 : Nat), k ≤ n ∧ ps.length ≤ k ∧ (∃ u : Nat → Value, a' = { tmps := #[u 0, u 1, .pointer (some ⟨w.heap.size, 0, none⟩), .pointer (some ⟨w.heap.size + 1, 0, none⟩), .slice a4 n c4, .int .i64 (k : Nat), u 6, u 7, u 8, u 9, u 10, u 11, u 12, u 13, u 14, u 15, u 16, u 17, u 18, u 19, u 20, u 21, u 22, u 23, u 24, u 25, u 26, u 27, u 28, u 29, u 30, u 31, u 32, u 33, u 34, u 35, u 36, u 37, u 38, u 39, u 40, u 41, u 42, u 43, u 44, u 45, u 46, u 47, u 48, u 49, u 50, u 51, u 52, u 53, u 54, u 55, u 56], defers := [] }) ∧ CInv w w' (.slice a4 n c4) pv sl ps ∧ R = ps.map (·.1) ++ comp (sl.drop k))
    (fun a' _ => n - (intOf (a'.tmps.getD 5 undef)).toNat) rfl ?_ ?_
  · rintro a' wr ⟨k, ps, pv, a4, c4, hk, hps, ⟨u, rfl⟩, hinv, hr⟩
    obtain ⟨m, hm⟩ : ∃ m, m = ps.length := ⟨_, rfl⟩
    have hown := hinv.own
    rw [← hm] at hown hps
    obtain ⟨pa, pcap, rfl⟩ := own_shape hown
    have hz := hinv.size
    have hz0 : w.heap.size < wr.heap.size := by omega
    have hz1 : w.heap.size < wr.heap.size + 1 := by omega
    have hz2 : w.heap.size < wr.heap.size + 1 + 1 := by omega
    have hz3 : w.heap.size < wr.heap.size + 1 + 1 + 1 := by omega
    have hz4 : w.heap.size < wr.heap.size + 1 + 1 + 1 + 1 := by omega
    have r0 := hinv.res.cell 0
    have s0 := hinv.res.free 0
    have p0 := hinv.out.cell 0
    have q0 := hinv.out.free 0
    simp at r0 p0
    have HI := Lib.hid hinv
    have HRR := Lib.hid hr
    have HM := Lib.hid hm
    clear hinv hr hm hown
    by_cases hlt : k < n
    · obtain ⟨x, hx⟩ : ∃ x, sl[k]? = some x := ⟨_, List.getElem?_eq_getElem (by rw [← HN.out]; omega)⟩
      have hl1 := Sl.of_own HI.out.sgs
      obtain ⟨b1, o1, i1, hb1, c1, d1⟩ := sg_at hl1 hx (k : Int) rfl
      obtain ⟨v', j1, hcut⟩ := sgs_cut hl1 (k := k + 1) (by rw [← HN.out]; omega)
      rw [show (((k + 1 : Nat)) : Int) = (k : Int) + 1 by omega] at j1
      have hdr := drop_cons hx
      rw [hdr] at HRR
      have hb1' : b1 < wr.heap.size := hb1
      obtain ⟨q1, hq1⟩ : ∃ r, isb x 63 = r := ⟨_, rfl⟩
      obtain ⟨q2, hq2⟩ : ∃ r, isb x 42 = r := ⟨_, rfl⟩
      obtain ⟨q3, hq3⟩ : ∃ r, isb x 91 = r := ⟨_, rfl⟩
      have C1 := is_at x 63 q1 hq1 63 rfl
      have C2 := is_at x 42 q2 hq2 42 rfl
      have C3 := is_at x 91 q3 hq3 91 rfl
      obtain ⟨t, ht⟩ : ∃ t, t = sl.drop (k + 1) := ⟨_, rfl⟩
      rw [← ht] at hcut HRR
      have htl : t.length = n - (k + 1) := by rw [ht, List.length_drop, HN.out]
      obtain ⟨Rs, hRs⟩ : ∃ r, setS true (off0 t) [] (t.drop (off0 t)) = r := ⟨_, rfl⟩
      have CS : Hid (∀ W, Below wr.heap.size wr W → Calls Tryz.prog 70 #[v'] W (SetPost (notS t) Rs W)) := Lib.hid fun W hW => by
        rw [← hRs]; exact set_any t v' W ((hcut.below hW).mono hW.size) (by omega)
      have hsp := setP_of hRs
      have HT := Lib.hid ht
      have HSP := Lib.hid hsp
      clear hl1 hcut hdr hx ht htl hRs hsp
      cases q1 with
      | true =>
        have HR2 : Hid (R = (ps ++ [((⟨x.b, 0, false, []⟩ : Pt), Value.slice none 0 0)]).map (·.1) ++ comp (sl.drop (k + 1))) := Lib.hid (by rw [HRR.out, comp_sign (by rw [hq1]; rfl), ← HT.out]; simp)
        clear hq1 hq2 hq3 C2 C3 CS
        go_wp2_with (first | (go_at_call 69; with_reducible first | (refine (C1.out _).mono ?_; rintro e w' ⟨rfl, rfl⟩) | (refine (C2.out _).mono ?_; rintro e w' ⟨rfl, rfl⟩) | (refine (C3.out _).mono ?_; rintro e w' ⟨rfl, rfl⟩)) | (at_builtin; go_must (refine append_sl rfl _ _ 95 rfl (w.heap.size + 2) 137 Tryz.underlying95 infoPart rfl (by decide) (v := .slice pa m pcap) (n := m) (xs := ps.flatMap ptC) rfl (HI.out.own_at HM.out (by repeat (with_reducible first | exact Below.refl _ _ | refine Below.alloc ?_ (by first | omega | (simp; done) | (simp; omega)) _ | refine Below.setCell ?_ (by simp) _))) (m := 1) (news := ptC ((⟨x.b, 0, false, []⟩ : Pt), Value.slice none 0 0)) rfl (sl_made_at _ #[.int .u8 ((x.b.toNat : Nat) : Int), .int .u8 0, .bool false, .slice none 0 0] _ 1 4 rfl (by unfold maxLen; omega) (by simp)) (by omega) (pts_one ((⟨x.b, 0, false, []⟩ : Pt), Value.slice none 0 0) rfl) (by omega) (by simp; omega) ?_); intro g cap1 w2 hown hgrow hlie hglt; obtain ⟨g3, g4⟩ := HI.out.facts_grown (by repeat (with_reducible first | exact Below.refl _ _ | refine Below.alloc ?_ (by first | omega | (simp; done) | (simp; omega)) _ | refine Below.setCell ?_ (by simp) _)) hgrow; have HP := Lib.hid (HI.out.push (by repeat (with_reducible first | exact Below.refl _ _ | refine Below.alloc ?_ (by first | omega | (simp; done) | (simp; omega)) _ | refine Below.setCell ?_ (by simp) _)) ((⟨x.b, 0, false, []⟩ : Pt), Value.slice none 0 0) (World.ownsRow_nil _ _ _ _) HM.out hown hgrow hlie); clear hown hgrow hlie hglt))
        go_step3
        refine ⟨rfl, ⟨k + 1, ps ++ [((⟨x.b, 0, false, []⟩ : Pt), Value.slice none 0 0)], _, a4, c4, by omega, by rw [List.length_append, ← HM.out]; simp; omega, fr_intro rfl, HP.out, HR2.out⟩, ?_⟩
        simp [intOf]; omega
      | false =>
        cases q2 with
        | true =>
          have HR2 : Hid (R = (ps ++ [((⟨x.b, 0, false, []⟩ : Pt), Value.slice none 0 0)]).map (·.1) ++ comp (sl.drop (k + 1))) := Lib.hid (by rw [HRR.out, comp_sign (by rw [hq1, hq2]; rfl), ← HT.out]; simp)
          clear hq1 hq2 hq3 C3 CS
          go_wp2_with (first | (go_at_call 69; with_reducible first | (refine (C1.out _).mono ?_; rintro e w' ⟨rfl, rfl⟩) | (refine (C2.out _).mono ?_; rintro e w' ⟨rfl, rfl⟩) | (refine (C3.out _).mono ?_; rintro e w' ⟨rfl, rfl⟩)) | (at_builtin; go_must (refine append_sl rfl _ _ 95 rfl (w.heap.size + 2) 137 Tryz.underlying95 infoPart rfl (by decide) (v := .slice pa m pcap) (n := m) (xs := ps.flatMap ptC) rfl (HI.out.own_at HM.out (by repeat (with_reducible first | exact Below.refl _ _ | refine Below.alloc ?_ (by first | omega | (simp; done) | (simp; omega)) _ | refine Below.setCell ?_ (by simp) _))) (m := 1) (news := ptC ((⟨x.b, 0, false, []⟩ : Pt), Value.slice none 0 0)) rfl (sl_made_at _ #[.int .u8 ((x.b.toNat : Nat) : Int), .int .u8 0, .bool false, .slice none 0 0] _ 1 4 rfl (by unfold maxLen; omega) (by simp)) (by omega) (pts_one ((⟨x.b, 0, false, []⟩ : Pt), Value.slice none 0 0) rfl) (by omega) (by simp; omega) ?_); intro g cap1 w2 hown hgrow hlie hglt; obtain ⟨g3, g4⟩ := HI.out.facts_grown (by repeat (with_reducible first | exact Below.refl _ _ | refine Below.alloc ?_ (by first | omega | (simp; done) | (simp; omega)) _ | refine Below.setCell ?_ (by simp) _)) hgrow; have HP := Lib.hid (HI.out.push (by repeat (with_reducible first | exact Below.refl _ _ | refine Below.alloc ?_ (by first | omega | (simp; done) | (simp; omega)) _ | refine Below.setCell ?_ (by simp) _)) ((⟨x.b, 0, false, []⟩ : Pt), Value.slice none 0 0) (World.ownsRow_nil _ _ _ _) HM.out hown hgrow hlie); clear hown hgrow hlie hglt))
          go_step3
          refine ⟨rfl, ⟨k + 1, ps ++ [((⟨x.b, 0, false, []⟩ : Pt), Value.slice none 0 0)], _, a4, c4, by omega, by rw [List.length_append, ← HM.out]; simp; omega, fr_intro rfl, HP.out, HR2.out⟩, ?_⟩
          simp [intOf]; omega
        | false =>
          cases q3 with
          | false =>
            have HR2 : Hid (R = (ps ++ [((⟨98, x.b, false, []⟩ : Pt), Value.slice none 0 0)]).map (·.1) ++ comp (sl.drop (k + 1))) := Lib.hid (by rw [HRR.out, comp_byte (by rw [hq1, hq2]; rfl) (by rw [hq3]; simp), ← HT.out]; simp)
            clear hq1 hq2 hq3 CS
            go_wp2_with (first | (go_at_call 69; with_reducible first | (refine (C1.out _).mono ?_; rintro e w' ⟨rfl, rfl⟩) | (refine (C2.out _).mono ?_; rintro e w' ⟨rfl, rfl⟩) | (refine (C3.out _).mono ?_; rintro e w' ⟨rfl, rfl⟩)) | (at_builtin; go_must (refine append_sl rfl _ _ 95 rfl (w.heap.size + 2) 137 Tryz.underlying95 infoPart rfl (by decide) (v := .slice pa m pcap) (n := m) (xs := ps.flatMap ptC) rfl (HI.out.own_at HM.out (by repeat (with_reducible first | exact Below.refl _ _ | refine Below.alloc ?_ (by first | omega | (simp; done) | (simp; omega)) _ | refine Below.setCell ?_ (by simp) _))) (m := 1) (news := ptC ((⟨98, x.b, false, []⟩ : Pt), Value.slice none 0 0)) rfl (sl_made_at _ #[.int .u8 98, .int .u8 ((x.b.toNat : Nat) : Int), .bool false, .slice none 0 0] _ 1 4 rfl (by unfold maxLen; omega) (by simp)) (by omega) (pts_one ((⟨98, x.b, false, []⟩ : Pt), Value.slice none 0 0) rfl) (by omega) (by simp; omega) ?_); intro g cap1 w2 hown hgrow hlie hglt; obtain ⟨g3, g4⟩ := HI.out.facts_grown (by repeat (with_reducible first | exact Below.refl _ _ | refine Below.alloc ?_ (by first | omega | (simp; done) | (simp; omega)) _ | refine Below.setCell ?_ (by simp) _)) hgrow; have HP := Lib.hid (HI.out.push (by repeat (with_reducible first | exact Below.refl _ _ | refine Below.alloc ?_ (by first | omega | (simp; done) | (simp; omega)) _ | refine Below.setCell ?_ (by simp) _)) ((⟨98, x.b, false, []⟩ : Pt), Value.slice none 0 0) (World.ownsRow_nil _ _ _ _) HM.out hown hgrow hlie); clear hown hgrow hlie hglt))
            go_step3
            refine ⟨rfl, ⟨k + 1, ps ++ [((⟨98, x.b, false, []⟩ : Pt), Value.slice none 0 0)], _, a4, c4, by omega, by rw [List.length_append, ← HM.out]; simp; omega, fr_intro rfl, HP.out, HR2.out⟩, ?_⟩
            simp [intOf]; omega
          | true =>
            cases Rs with
            | none =>
              have HR2 : Hid (R = (ps ++ [((⟨98, x.b, false, []⟩ : Pt), Value.slice none 0 0)]).map (·.1) ++ comp (sl.drop (k + 1))) := Lib.hid (by rw [HRR.out, comp_byte (by rw [hq1, hq2]; rfl) (fun _ => HSP.out), ← HT.out]; simp)
              clear hq1 hq2 hq3
              go_wp2_with (go_at_call 69; with_reducible first | (refine (C1.out _).mono ?_; rintro e w' ⟨rfl, rfl⟩) | (refine (C2.out _).mono ?_; rintro e w' ⟨rfl, rfl⟩) | (refine (C3.out _).mono ?_; rintro e w' ⟨rfl, rfl⟩))
              refine (CS.out _ (Below.alloc (Below.alloc (Below.alloc (Below.alloc (Below.alloc (Below.refl _ _) (Nat.le_refl _) _) (by simp) _) (by simp; omega) _) (by simp; omega) _) (by simp; omega) _)).mono ?_
              rintro e w5 ⟨hb5, rfl⟩
              have hz5 := hb5.size
              simp at hz5
              have hz6 : w.heap.size + 1 < w5.heap.size := by omega
              have hz7 : wr.heap.size + 1 < w5.heap.size := by omega
              have hz8 : w.heap.size < w5.heap.size := by omega
              have hz9 : wr.heap.size < w5.heap.size := by omega
              have hB0 := Blk.new (wr.alloc (.cells #[.int .u8 ((x.b.toNat : Nat) : Int), .bool x.q] 134)) 137 #[.int .u8 98, .int .u8 ((x.b.toNat : Nat) : Int), .bool false, .slice none 0 0]
              rw [show (wr.alloc (.cells #[.int .u8 ((x.b.toNat : Nat) : Int), .bool x.q] 134)).heap.size = wr.heap.size + 1 by simp] at hB0
              have hB := (((hB0.alloc _).alloc _).alloc _).below hb5 (by simp)
              have z0 := hB.cell 0
              have z1 := hB.cell 1
              have z2 := hB.cell 2
              have z3 := hB.cell 3
              simp at z0 z1 z2 z3
              have y0 := hB.free 0
              have y1 := hB.free 1
              have y2 := hB.free 2
              have y3 := hB.free 3
              have HBX := Lib.hid hB
              clear hB0 hB
              have z4 := (hb5.cell (p := ⟨w.heap.size + 1, 0, none⟩) (by simp; omega)).trans ((Below.cell (p := ⟨w.heap.size + 1, 0, none⟩) (Below.alloc (Below.alloc (Below.alloc (Below.alloc (Below.alloc (Below.refl _ _) (Nat.le_refl _) _) (by simp) _) (by simp; omega) _) (by simp; omega) _) (by simp; omega) _) hz).trans p0)
              have HB5 := Lib.hid hb5
              clear hb5
              go_wp2_with (first | (go_at_call 69; with_reducible first | (refine (C1.out _).mono ?_; rintro e w' ⟨rfl, rfl⟩) | (refine (C2.out _).mono ?_; rintro e w' ⟨rfl, rfl⟩) | (refine (C3.out _).mono ?_; rintro e w' ⟨rfl, rfl⟩)) | (at_builtin; go_must (refine append_sl rfl _ _ 95 rfl (w.heap.size + 2) 137 Tryz.underlying95 infoPart rfl (by decide) (v := .slice pa m pcap) (n := m) (xs := ps.flatMap ptC) rfl (HI.out.own_at HM.out (by repeat (with_reducible first | exact Below.refl _ _ | refine Below.trans ?_ (HB5.out.mono (by simp; omega)) | refine Below.alloc ?_ (by first | omega | (simp; done) | (simp; omega)) _ | refine Below.setCell ?_ (by simp) _))) (m := 1) (news := ptC ((⟨98, x.b, false, []⟩ : Pt), Value.slice none 0 0)) rfl (sl_made_at _ #[.int .u8 98, .int .u8 ((x.b.toNat : Nat) : Int), .bool false, .slice none 0 0] _ 1 4 rfl (by unfold maxLen; omega) (by simp)) (by omega) (pts_one ((⟨98, x.b, false, []⟩ : Pt), Value.slice none 0 0) rfl) (by omega) (by simp; omega) ?_); intro g cap1 w2 hown hgrow hlie hglt; obtain ⟨g3, g4⟩ := HI.out.facts_grown (by repeat (with_reducible first | exact Below.refl _ _ | refine Below.trans ?_ (HB5.out.mono (by simp; omega)) | refine Below.alloc ?_ (by first | omega | (simp; done) | (simp; omega)) _ | refine Below.setCell ?_ (by simp) _)) hgrow; have HP := Lib.hid (HI.out.push (by repeat (with_reducible first | exact Below.refl _ _ | refine Below.trans ?_ (HB5.out.mono (by simp; omega)) | refine Below.alloc ?_ (by first | omega | (simp; done) | (simp; omega)) _ | refine Below.setCell ?_ (by simp) _)) ((⟨98, x.b, false, []⟩ : Pt), Value.slice none 0 0) (World.ownsRow_nil _ _ _ _) HM.out hown hgrow hlie); clear hown hgrow hlie hglt))
              go_step3
              refine ⟨rfl, ⟨k + 1, ps ++ [((⟨98, x.b, false, []⟩ : Pt), Value.slice none 0 0)], _, a4, c4, by omega, by rw [List.length_append, ← HM.out]; simp; omega, fr_intro rfl, HP.out, HR2.out⟩, ?_⟩
              simp [intOf]; omega
            | some sn =>
              obtain ⟨sp, mm⟩ := sn
              have hsl := setP_gt HSP.out
              have hkn : k + 1 + mm ≤ n := by
                have := hsl.2
                rw [HT.out, List.length_drop, ← HN.out] at this
                omega
              have HR2 : ∀ sv : Value, Hid (R = (ps ++ [((⟨91, 0, notS t, sp⟩ : Pt), sv)]).map (·.1) ++ comp (sl.drop (k + 1 + mm))) := fun sv => Lib.hid (by rw [HRR.out, comp_set hq3 HSP.out, HT.out, List.drop_drop]; simp)
              have HRa := Lib.hid HR2
              obtain ⟨ng, hng⟩ : ∃ ng, ng = notS t := ⟨_, rfl⟩
              rw [← hng] at CS HRa
              clear hq1 hq2 hq3 hsl HR2 HSP hng
              go_wp2_with (go_at_call 69; with_reducible first | (refine (C1.out _).mono ?_; rintro e w' ⟨rfl, rfl⟩) | (refine (C2.out _).mono ?_; rintro e w' ⟨rfl, rfl⟩) | (refine (C3.out _).mono ?_; rintro e w' ⟨rfl, rfl⟩))
              refine (CS.out _ (Below.alloc (Below.alloc (Below.alloc (Below.alloc (Below.alloc (Below.refl _ _) (Nat.le_refl _) _) (by simp) _) (by simp; omega) _) (by simp; omega) _) (by simp; omega) _)).mono ?_
              rintro e w5 ⟨hb5, sv, rfl, hos⟩
              have hz5 := hb5.size
              simp at hz5
              have hz6 : w.heap.size + 1 < w5.heap.size := by omega
              have hz7 : wr.heap.size + 1 < w5.heap.size := by omega
              have hz8 : w.heap.size < w5.heap.size := by omega
              have hz9 : wr.heap.size < w5.heap.size := by omega
              have hB0 := Blk.new (wr.alloc (.cells #[.int .u8 ((x.b.toNat : Nat) : Int), .bool x.q] 134)) 137 #[.int .u8 98, .int .u8 ((x.b.toNat : Nat) : Int), .bool false, .slice none 0 0]
              rw [show (wr.alloc (.cells #[.int .u8 ((x.b.toNat : Nat) : Int), .bool x.q] 134)).heap.size = wr.heap.size + 1 by simp] at hB0
              have hB := (((hB0.alloc _).alloc _).alloc _).below hb5 (by simp)
              have z0 := hB.cell 0
              have z1 := hB.cell 1
              have z2 := hB.cell 2
              have z3 := hB.cell 3
              simp at z0 z1 z2 z3
              have y0 := hB.free 0
              have y1 := hB.free 1
              have y2 := hB.free 2
              have y3 := hB.free 3
              have HBX := Lib.hid hB
              clear hB0 hB
              have z4 := (hb5.cell (p := ⟨w.heap.size + 1, 0, none⟩) (by simp; omega)).trans ((Below.cell (p := ⟨w.heap.size + 1, 0, none⟩) (Below.alloc (Below.alloc (Below.alloc (Below.alloc (Below.alloc (Below.refl _ _) (Nat.le_refl _) _) (by simp) _) (by simp; omega) _) (by simp; omega) _) (by simp; omega) _) hz).trans p0)
              have HB5 := Lib.hid hb5
              clear hb5
              obtain ⟨sa, scap, rfl⟩ := own_shape hos
              have HOS := Lib.hid hos
              have HR2 := HRa.out (.slice sa sp.length scap)
              clear hos
              go_upto_region 16 with (fail)
              obtain ⟨w6, hw6⟩ : ∃ w6, w6 = (((((w5.setCell ⟨wr.heap.size + 1, 0, none⟩ (.int .u8 91)).setCell ⟨wr.heap.size + 1, 1, none⟩ (.int .u8 0)).setCell ⟨wr.heap.size + 1, 2, none⟩ (.bool ng)).setCell ⟨wr.heap.size + 1, 3, none⟩ (.slice sa sp.length scap)).alloc (.cells #[.int .u8 91, .int .u8 0, .bool ng, .slice sa sp.length scap] 137)) := ⟨_, rfl⟩
              rw [← hw6]
              have HB6 : Hid (Below wr.heap.size wr w6) := Lib.hid (by
                rw [hw6]
                exact Below.alloc ((((((Below.alloc (Below.alloc (Below.alloc (Below.alloc (Below.alloc (Below.refl _ _) (Nat.le_refl _) _) (by simp) _) (by simp; omega) _) (by simp; omega) _) (by simp; omega) _).trans (HB5.out.mono (by simp; omega))).setCell (by simp) _).setCell (by simp) _).setCell (by simp) _).setCell (by simp) _) (by simp; omega) _)
              have HO6 : Hid (w6.ownsRow wr.heap.size 154 2 (.slice sa sp.length scap) sp.length (sp.flatMap spanC)) := Lib.hid (by
                rw [hw6]
                exact own_from ((own_far (own_far (own_far (own_far HOS.out (by simp) _) (by simp) _) (by simp) _) (by simp) _).alloc _) (by simp; omega))
              have hb6 := ((((HBX.out.put 0 (.int .u8 91)).put 1 (.int .u8 0)).put 2 (.bool ng)).put 3 (.slice sa sp.length scap)).alloc (.cells #[.int .u8 91, .int .u8 0, .bool ng, .slice sa sp.length scap] 137)
              rw [← hw6] at hb6
              have hsz6 : w5.heap.size < w6.heap.size := by rw [hw6]; simp
              clear z0 z1 z2 z3 z4 y0 y1 y2 y3 HB5 HOS HBX
              have z0 := hb6.cell 0
              have z1 := hb6.cell 1
              have z2 := hb6.cell 2
              have z3 := hb6.cell 3
              simp at z0 z1 z2 z3
              have z4 := ((HB6.out.cell (p := ⟨w.heap.size + 1, 0, none⟩) hz).trans p0)
              have hz60 : w.heap.size < w6.heap.size := by omega
              have hz61 : w.heap.size + 1 < w6.heap.size := by omega
              have hz62 : wr.heap.size < w6.heap.size := by omega
              have hz63 : wr.heap.size + 1 < w6.heap.size := by omega
              clear hw6 hb6 hsz6 hz5 hz6 hz7 hz8 hz9
              go_wp2_with (first | (go_at_call 69; with_reducible first | (refine (C1.out _).mono ?_; rintro e w' ⟨rfl, rfl⟩) | (refine (C2.out _).mono ?_; rintro e w' ⟨rfl, rfl⟩) | (refine (C3.out _).mono ?_; rintro e w' ⟨rfl, rfl⟩)) | (at_builtin; go_must (refine append_sl rfl _ _ 95 rfl (w.heap.size + 2) 137 Tryz.underlying95 infoPart rfl (by decide) (v := .slice pa m pcap) (n := m) (xs := ps.flatMap ptC) rfl (HI.out.own_at HM.out (by repeat (with_reducible first | exact Below.refl _ _ | refine Below.trans ?_ HB6.out | refine Below.alloc ?_ (by first | omega | (simp; done) | (simp; omega)) _ | refine Below.setCell ?_ (by simp) _))) (m := 1) (news := ptC ((⟨91, 0, ng, sp⟩ : Pt), Value.slice sa sp.length scap)) rfl (sl_made_at _ #[.int .u8 91, .int .u8 0, .bool ng, .slice sa sp.length scap] _ 1 4 rfl (by unfold maxLen; omega) (by simp)) (by omega) (pts_one ((⟨91, 0, ng, sp⟩ : Pt), Value.slice sa sp.length scap) rfl) (by omega) (by simp; omega) ?_); intro g cap1 w2 hown hgrow hlie hglt; obtain ⟨g3, g4⟩ := HI.out.facts_grown (by repeat (with_reducible first | exact Below.refl _ _ | refine Below.trans ?_ HB6.out | refine Below.alloc ?_ (by first | omega | (simp; done) | (simp; omega)) _ | refine Below.setCell ?_ (by simp) _)) hgrow; have HP := Lib.hid (HI.out.push (by repeat (with_reducible first | exact Below.refl _ _ | refine Below.trans ?_ HB6.out | refine Below.alloc ?_ (by first | omega | (simp; done) | (simp; omega)) _ | refine Below.setCell ?_ (by simp) _)) ((⟨91, 0, ng, sp⟩ : Pt), Value.slice sa sp.length scap) (HO6.out.alloc _) HM.out hown hgrow hlie); clear hown hgrow hlie hglt))
              go_step3
              refine ⟨rfl, ⟨k + 1 + mm, ps ++ [((⟨91, 0, ng, sp⟩ : Pt), Value.slice sa sp.length scap)], _, a4, c4, by omega, by rw [List.length_append, ← HM.out]; simp; omega, fr_intro rfl, HP.out, HR2.out⟩, ?_⟩
              simp [intOf]; omega
    · obtain rfl : k = n := by omega
      have hR : R = ps.map (·.1) := by rw [HRR.out, List.drop_of_length_le (by rw [← HN.out]; omega), comp_nil, List.append_nil]
      subst hR
      go_wp2_with fail
      try simp only [Exit.jump]
      have hfin := HI.out.res.put 0 (.slice pa m pcap)
      refine bodyPost_ret (comp_results rfl hfin) rfl ⟨?_, _, rfl, ?_⟩
      · exact HI.out.bel.setCell (p := ⟨w.heap.size, 0, none⟩) (Nat.le_refl _) _
      · exact HI.out.pat (.slice pa m pcap)
  · intro hR
    go_wp2_with (go_at_call 68; refine (CSg.out _ (Below.alloc (Below.alloc (Below.refl _ _) (Nat.le_refl _) _) (by simp) _)).mono ?_; rintro e w1 ⟨hb, v4, rfl, hown⟩)
    rw [show ((w.alloc (.cells #[.slice none 0 0] 97)).alloc (.cells #[.slice none 0 0] 97)).heap.size = w.heap.size + 2 by simp] at hb hown
    rw [← HN.out] at hown
    obtain ⟨a4, c4, rfl⟩ := own_shape hown
    have HI0 := CInv.start w w1 HN.out hb hown
    clear hb hown CSg
    go_step3
    go_step
    go_step
    exact hR.out _ _ ⟨0, [], _, a4, c4, Nat.zero_le _, Nat.le_refl _, fr_intro rfl, HI0, by rw [HR.out]; rfl⟩
end Go.Proofs.YtjeinpadcknfbaaGreatDoor
namespace Go.Proofs.YtjeinpadcknfbaaGreatDoor
open Go.RowKit

theorem PatOwn.shape {w : World} {base : Nat} {v : Value} {l : List Pt} (h : PatOwn w base v l) : ∃ a n cap, v = .slice a n cap := by
  obtain ⟨ps, _, h2, _⟩ := h
  obtain ⟨a, cap, h⟩ := own_shape h2
  exact ⟨a, _, cap, h⟩

/-! ### Escape -/
/-! ### fits -/
theorem span_at {w : World} {B : Nat} {v : Value} {l : List Span} (h : Sl w B 2 v l.length (l.flatMap spanC)) {k : Nat} {x : Span} (hx : l[k]? = some x) :
    ∃ b o, (∀ w' : World, (Instr.indexAt 135 v (.int .i64 (k : Int))).run Tryz.prog w' = .ok (.pointer (some ⟨b, o, none⟩)) w') ∧ b < B ∧ w.cell? ⟨b, o, none⟩ = some (.int .u8 ((x.1.toNat : Nat) : Int)) ∧ w.cell? ⟨b, o + 1, none⟩ = some (.int .u8 ((x.2.toNat : Nat) : Int)) := by
  have hk := (List.getElem?_eq_some_iff.1 hx).1
  obtain ⟨a, cap, b, off, rfl, _, _, h1, h2, h3⟩ := h.open (P := Tryz.prog) 135 154 Tryz.underlying135 (by kernel_rfl)
  have g := flat_get spanC 2 spanC_len l k x hx
  refine ⟨b, off + k * 2, fun w' => h1 k w' hk, by omega, ?_, ?_⟩
  · rw [show off + k * 2 = off + (k * 2 + 0) by omega, h3 _ (by omega), g 0 (by omega)]; rfl
  · rw [show off + k * 2 + 1 = off + (k * 2 + 1) by omega, h3 _ (by omega), g 1 (by omega)]; rfl

set_option maxHeartbeats 1000000 in
theorem fits_any (p : Pt) (sv : Value) (c : UInt8) (w : World) (hs : Sl w w.heap.size 2 sv p.set.length (p.set.flatMap spanC)) :
    Calls Tryz.prog 99 #[.agg #[.int .u8 ((p.kind.toNat : Nat) : Int), .int .u8 ((p.b.toNat : Nat) : Int), .bool p.neg, sv], .int .u8 ((c.toNat : Nat) : Int)] w fun e w' => e = .returned (.bool (fitsP p c)) ∧ Below w.heap.size w w' := by
  obtain ⟨kind, b, neg, set⟩ := p
  simp only at hs ⊢
  obtain ⟨R, hR⟩ : ∃ R, R = fitsP ⟨kind, b, neg, set⟩ c := ⟨_, rfl⟩
  rw [← hR]
  have HR := Lib.hid hR
  have HS := Lib.hid hs
  have hsl := hs.len
  unfold maxLen at hsl
  obtain ⟨n, hn⟩ : ∃ n, n = set.length := ⟨_, rfl⟩
  rw [← hn] at hs hsl
  obtain ⟨a, cap, rfl⟩ : ∃ a cap, sv = .slice a n cap := by
    obtain ⟨_, a, cap, h, _⟩ := hs
    exact ⟨a, cap, h⟩
  have HN := Lib.hid hn
  clear hR hs hn
  by_cases h1 : kind = 98
  · have t1 : (((kind.toNat : Nat) : Int) == 98) = true := eq_byte h1
    have hR : R = (b == c) := by rw [HR.out, fitsP, if_pos h1]
    have hbb := beq_byte b c
    rw [← hR] at hbb
    clear h1 hR
    go_enter Tryz.func99, Tryz.ntmps99
    go_wp2
    go_ret
    exact ⟨rfl, Below.alloc (Below.refl _ _) (Nat.le_refl _) _⟩
  have t1 : (((kind.toNat : Nat) : Int) == 98) = false := ne_byte h1
  by_cases h2 : kind = 63
  · have t2 : (((kind.toNat : Nat) : Int) == 63) = true := eq_byte h2
    have hR : R = true := by rw [HR.out, fitsP, if_neg h1, if_pos h2]
    subst hR
    clear h1 h2
    go_enter Tryz.func99, Tryz.ntmps99
    go_wp2
    go_ret
    exact ⟨rfl, Below.alloc (Below.refl _ _) (Nat.le_refl _) _⟩
  have t2 : (((kind.toNat : Nat) : Int) == 63) = false := ne_byte h2
  have hR := HR.out
  rw [fitsP, if_neg h1, if_neg h2] at hR
  have HR2 := Lib.hid hR
  clear h1 h2 hR HR
  go_enter Tryz.func99, Tryz.ntmps99
  go_wp2
  go_loopw [20] (fun i wr => ∃ k : Nat, k ≤ n ∧ i = .int .i64 k ∧ (set.take k).any (inSpan c) = false ∧ wr.cell? ⟨w.heap.size, 2, none⟩ = some (.bool neg) ∧ w.heap.size < wr.heap.size ∧ Below w.heap.size w wr) (fun i _ => n - (intOf i).toNat)
  case atStart => exact ⟨0, Nat.zero_le _, rfl, rfl, by simp, by simp, Below.alloc (Below.refl _ _) (Nat.le_refl _) _⟩
  case round =>
    obtain ⟨k, hk, rfl, ha, hc, hsz, hb⟩ := hrel
    have HA := Lib.hid ha
    have HB := Lib.hid hb
    by_cases hlt : k < n
    · obtain ⟨x, hx⟩ : ∃ x, set[k]? = some x := ⟨_, List.getElem?_eq_getElem (by rw [← HN.out]; omega)⟩
      obtain ⟨b1, o1, i1, hb1, c1, d1⟩ := span_at (HS.out.below hb) hx
      have hb1' : b1 < wr.heap.size := by omega
      have htk : (set.take (k + 1)).any (inSpan c) = inSpan c x := by
        obtain ⟨hk', e⟩ := List.getElem?_eq_some_iff.1 hx
        rw [List.take_succ_eq_append_getElem hk', e, List.any_append, ha]; simp
      have hany : inSpan c x = true → set.any (inSpan c) = true := fun h => List.any_eq_true.2 ⟨x, List.mem_of_getElem? hx, h⟩
      obtain ⟨lo, hi⟩ := x
      by_cases g1 : lo ≤ c
      · have f1 : lo.toNat ≤ c.toNat := UInt8.le_iff_toNat_le.1 g1
        by_cases g2 : c ≤ hi
        · have f2 : c.toNat ≤ hi.toNat := UInt8.le_iff_toNat_le.1 g2
          have hR : R = !neg := by rw [HR2.out, if_pos (hany (by simp [inSpan, g1, g2]))]
          subst hR
          clear hx htk hany ha hb g1 g2
          go_wp2
          go_ret
          exact ⟨rfl, Below.alloc HB.out (by omega) _⟩
        · have f2 : hi.toNat < c.toNat := by rw [UInt8.le_iff_toNat_le] at g2; omega
          have hT : Hid ((set.take (k + 1)).any (inSpan c) = false) := Lib.hid (by rw [htk]; simp [inSpan, g2])
          clear hx htk hany ha hb g1 g2
          go_wp2
          go_roundw
          case rel => exact ⟨k + 1, by omega, by go_num, hT.out, ((Below.alloc (Below.refl _ _) (Nat.le_refl _) _).cell (p := ⟨w.heap.size, 2, none⟩) hsz).trans hc, by simp; omega, Below.alloc HB.out (by omega) _⟩
          case measure => simp [intOf]; omega
      · have f1 : c.toNat < lo.toNat := by rw [UInt8.le_iff_toNat_le] at g1; omega
        have hT : Hid ((set.take (k + 1)).any (inSpan c) = false) := Lib.hid (by rw [htk]; simp [inSpan, g1])
        clear hx htk hany ha hb g1
        go_wp2
        go_roundw
        case rel => exact ⟨k + 1, by omega, by go_num, hT.out, ((Below.alloc (Below.refl _ _) (Nat.le_refl _) _).cell (p := ⟨w.heap.size, 2, none⟩) hsz).trans hc, by simp; omega, Below.alloc HB.out (by omega) _⟩
        case measure => simp [intOf]; omega
    · obtain rfl : k = n := by omega
      have hR : R = neg := by
        rw [List.take_of_length_le (by rw [← HN.out]; omega)] at ha
        rw [HR2.out, ha]; rfl
      subst hR
      clear ha hb
      go_wp2
      go_ret
      exact ⟨rfl, HB.out⟩
end Go.Proofs.YtjeinpadcknfbaaGreatDoor
