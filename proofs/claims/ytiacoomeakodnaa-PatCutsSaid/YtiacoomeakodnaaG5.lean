/-
  A set behind its bracket: the walk, step by step.
-/
import Derived.Test.YtiacoomeakodnaaG4
namespace Go.Proofs.Ytiacoomeakodnaa
open Go.RowKit

def SetPost (neg : Bool) (R : Option (List Span × Nat)) (w : World) (e : Ending) (w' : World) : Prop := Below w.heap.size w w' ∧ match R with
  | some (sp, n) => ∃ sv, e = .returned (.tuple #[.agg (partC 91 0 neg sv), .int .i64 (n : Nat), .bool true]) ∧ w'.ownsRow w.heap.size 62 2 sv sp.length (sp.flatMap spanC)
  | none => e = .returned (.tuple #[.agg (partC 0 0 false (.slice none 0 0)), .int .i64 0, .bool false])

theorem infoSpan : (Try.prog.info? 62).map (fun i => (i.zero, i.size, i.bytes)) = some (some (.agg #[.int .u8 0, .int .u8 0]), 2, 2) := by kernel_rfl

def off0 (l : List Sg) : Nat := if notS l then 1 else 0

set_option maxHeartbeats 4000000 in
set_option maxRecDepth 100000 in
theorem set_any (l : List Sg) (v : Value) (w : World) (hl : Sl w w.heap.size 2 v l.length (l.flatMap sgC)) (hn : l.length ≤ 100000) :
    Calls Try.prog 23 #[v] w (SetPost (notS l) (setS true (off0 l) [] (l.drop (off0 l))) w) := by
  obtain ⟨R, hR⟩ : ∃ R, R = setS true (off0 l) [] (l.drop (off0 l)) := ⟨_, rfl⟩
  obtain ⟨neg, hneg⟩ : ∃ neg, neg = notS l := ⟨_, rfl⟩
  obtain ⟨f0, hf0⟩ : ∃ f0, f0 = off0 l := ⟨_, rfl⟩
  obtain ⟨n, hnl⟩ : ∃ n, n = l.length := ⟨_, rfl⟩
  rw [← hR, ← hneg]
  rw [← hf0] at hR
  rw [← hnl] at hl hn
  have HL0 := Lib.hid hl
  obtain ⟨a, cap, rfl⟩ : ∃ a cap, v = .slice a n cap := by
    obtain ⟨_, a, cap, h, _⟩ := hl
    exact ⟨a, cap, h⟩
  have HR := Lib.hid hR
  have HNEG := Lib.hid hneg
  have HF := Lib.hid hf0
  have HN := Lib.hid hnl
  clear hR hneg hf0 hnl hl
  go_enter Try.func23, Try.ntmps23
  go_wp2_with fail
  refine wp_scope_again 0 (fun a' w' => ∃ (k : Nat) (sp : List Span) (sv : Value), k ≤ n ∧ f0 ≤ k ∧ sp.length ≤ 4 * k ∧ (∃ u : Nat → Value, a' = { tmps := #[.slice a n cap, u 1, .pointer (some ⟨w.heap.size, 0, none⟩), .int .i64 0, .bool false, .pointer (some ⟨w.heap.size + 1, 0, none⟩), .int .i64 (k : Nat), .int .i64 (f0 : Nat), u 8, u 9, u 10, u 11, u 12, u 13, u 14, u 15, u 16, u 17, u 18, u 19, u 20, u 21, u 22, u 23, u 24, u 25, u 26, u 27, u 28, u 29, u 30, u 31, u 32, u 33, u 34, u 35, u 36, u 37, u 38, u 39, u 40, u 41, u 42, u 43, u 44, u 45, u 46, u 47, u 48, u 49, u 50, u 51, u 52, u 53, u 54, u 55, u 56, u 57, u 58, u 59, u 60, u 61, u 62, u 63, u 64, u 65, u 66, u 67, u 68, u 69, u 70, u 71, u 72, u 73, u 74, u 75, u 76, u 77, u 78, u 79, u 80, u 81, u 82, u 83, u 84, u 85, u 86, u 87, u 88, u 89, u 90, u 91, u 92, u 93, u 94, u 95, u 96, u 97, u 98, u 99, u 100, u 101, u 102, u 103, u 104, u 105, u 106, u 107, u 108, u 109, u 110, u 111, u 112, u 113, u 114, u 115], defers := [] }) ∧ PInv w w' neg sv sp ∧ R = setS (decide (k = f0)) k sp (l.drop k))
    (fun a' _ => n - (intOf (a'.tmps.getD 6 undef)).toNat) rfl ?_ ?_
  · rintro a' wr ⟨k, sp, sv, hk, hfk, hsp, ⟨u, rfl⟩, hinv, hr⟩
    obtain ⟨sa, scap, rfl⟩ := own_shape hinv.own
    have hz := hinv.size
    have hz0 : w.heap.size < wr.heap.size := by omega
    have r0 := hinv.res.cell 0
    have r1 := hinv.res.cell 1
    have r2 := hinv.res.cell 2
    have r3 := hinv.res.cell 3
    have s0 := hinv.res.free 0
    have s1 := hinv.res.free 1
    have s2 := hinv.res.free 2
    have s3 := hinv.res.free 3
    have p0 := hinv.blk.cell 0
    have p1 := hinv.blk.cell 1
    have p2 := hinv.blk.cell 2
    have p3 := hinv.blk.cell 3
    simp [partC] at r0 r1 r2 r3 p0 p1 p2 p3
    have HI := Lib.hid hinv
    have HRR := Lib.hid hr
    clear hinv hr
    by_cases hlt : k < n
    · obtain ⟨x, hx⟩ : ∃ x, l[k]? = some x := ⟨_, List.getElem?_eq_getElem (by rw [← HN.out]; omega)⟩
      have hl1 := HL0.out.below HI.out.bel
      rw [HN.out] at hl1
      obtain ⟨b1, o1, i1, hb1, c1, d1⟩ := sg_at hl1 hx (k : Int) rfl
      obtain ⟨v', j1, hcut⟩ := sgs_cut hl1 (k := k) (by rw [← HN.out]; omega)
      rw [← HN.out] at i1 j1
      have hb1' : b1 < wr.heap.size := by omega
      have hdr := drop_cons hx
      obtain ⟨q1, hq1⟩ : ∃ r, isb x 93 = r := ⟨_, rfl⟩
      have C1 := is_at x 93 q1 hq1 93 rfl
      have CN : Hid (∀ W, Below wr.heap.size wr W → Calls Try.prog 27 #[v'] W (NamedPost (namedS (l.drop k)) W)) := Lib.hid fun W hW => named_any _ _ _ ((hcut.below (hW.mono (by omega))).mono (by have := hW.size; omega)) (by rw [List.length_drop, ← HN.out]; omega)
      obtain ⟨ed, hed⟩ : ∃ ed, ed = (q1 && !(decide (k = f0))) := ⟨_, rfl⟩
      have HHL := Lib.hid hl1
      clear hl1 hcut
      cases ed with
      | true =>
        simp at hed
        obtain ⟨rfl, hkf⟩ := hed
        have hfk2 : f0 < k := by omega
        have hR : R = some (sp, k + 1) := by rw [HRR.out, hdr, decide_eq_false hkf, setS_end hq1]
        subst hR
        clear hdr hq1 hx hkf
        go_wp2_with (go_at_call 22; with_reducible first | (refine (C1.out _).mono ?_; rintro e w' ⟨rfl, rfl⟩) | (refine (C2.out _).mono ?_; rintro e w' ⟨rfl, rfl⟩) | (refine (C3.out _).mono ?_; rintro e w' ⟨rfl, rfl⟩))
        try simp only [Exit.jump]
        have hfin := ((((HI.out.res.put 0 (.int .u8 91)).put 1 (.int .u8 0)).put 2 (.bool neg)).put 3 (.slice sa sp.length scap)).alloc (.cells #[.int .u8 ((x.b.toNat : Nat) : Int), .bool x.q] 54)
        have hbf := Below.alloc ((((HI.out.bel.setCell (p := ⟨w.heap.size, 0, none⟩) (Nat.le_refl _) (.int .u8 91)).setCell (p := ⟨w.heap.size, 1, none⟩) (Nat.le_refl _) (.int .u8 0)).setCell (p := ⟨w.heap.size, 2, none⟩) (Nat.le_refl _) (.bool neg)).setCell (p := ⟨w.heap.size, 3, none⟩) (Nat.le_refl _) (.slice sa sp.length scap)) (by simp [World.setCell]; omega) (.cells #[.int .u8 ((x.b.toNat : Nat) : Int), .bool x.q] 54)
        have hown := (own_far (p := ⟨w.heap.size, 3, none⟩) (own_far (p := ⟨w.heap.size, 2, none⟩) (own_far (p := ⟨w.heap.size, 1, none⟩) (own_far (p := ⟨w.heap.size, 0, none⟩) HI.out.own (by simp) (.int .u8 91)) (by simp) (.int .u8 0)) (by simp) (.bool neg)) (by simp) (.slice sa sp.length scap)).alloc (.cells #[.int .u8 ((x.b.toNat : Nat) : Int), .bool x.q] 54)
        refine bodyPost_ret (set_results rfl hfin) rfl ?_
        exact ⟨hbf, _, rfl, own_from hown (by omega)⟩
      | false =>
        obtain ⟨N, hN⟩ : ∃ N, namedS (l.drop k) = N := ⟨_, rfl⟩
        rw [hN] at CN
        have hend : (isb x 93 && !(decide (k = f0))) = false := by rw [hq1, ← hed]
        have hk5 : q1 = false ∨ (q1 = true ∧ k = f0) := by
          cases q1 with
          | false => exact .inl rfl
          | true => simp at hed; exact .inr ⟨rfl, hed⟩
        cases N with
        | some cm =>
          obtain ⟨cs, m⟩ := cm
          have hm := namedS_gt hN
          have hcs := namedS_pos hN
          have HR2 : Hid (R = setS (decide (k + m = f0)) (k + m) (sp ++ cs) (l.drop (k + m))) := Lib.hid (by
            rw [HRR.out, hdr, setS_named hend (by rw [← hdr]; exact hN), ← hdr, List.drop_drop, decide_eq_false (by omega)])
          have hmn : k + m ≤ n := by have := hm.2; rw [List.length_drop, ← HN.out] at this; omega

          clear hdr hq1 hx hed hend hN
          rcases hk5 with rfl | ⟨rfl, rfl⟩
          · skip
            go_wp2_with (first | (go_at_call 22; with_reducible first | (refine (C1.out _).mono ?_; rintro e w' ⟨rfl, rfl⟩) | (refine (C2.out _).mono ?_; rintro e w' ⟨rfl, rfl⟩) | (refine (C3.out _).mono ?_; rintro e w' ⟨rfl, rfl⟩)) | (go_at_call 27; refine (CN.out _ (Below.alloc (Below.refl _ _) (Nat.le_refl _) _)).mono ?_; rintro e w1 ⟨hb, v3, rfl, hs3⟩; have hb5 := (Below.alloc (Below.refl _ _) (Nat.le_refl _) _).trans (hb.mono (by simp)); have HB5 := Lib.hid hb5; have HI1 := Lib.hid (HI.out.next hb5); have HS3 := Lib.hid hs3; obtain ⟨g1, g2⟩ := HI1.out.facts; clear hb hb5 hs3) | (at_builtin; go_must (refine append_sl rfl _ _ 47 rfl (w.heap.size + 2) 62 Try.underlying47 infoSpan rfl (by decide) (v := .slice sa sp.length scap) (n := sp.length) (xs := sp.flatMap spanC) rfl HI1.out.own (m := cs.length) (news := cs.flatMap spanC) rfl HS3.out hcs.1 (spans_one cs) (by omega) HI1.out.size ?_); intro g cap1 w2 hown hgrow hlie hglt; obtain ⟨g3, g4⟩ := HI1.out.facts_grown hgrow; have HP := Lib.hid (HI1.out.push cs rfl hown hgrow); clear hown hgrow hlie hglt))
            go_step3
            refine ⟨rfl, ⟨k + m, sp ++ cs, _, hmn, by omega, by rw [List.length_append]; omega, fr_intro rfl, HP.out, HR2.out⟩, ?_⟩
            simp [intOf]; omega
          · skip
            go_wp2_with (first | (go_at_call 22; with_reducible first | (refine (C1.out _).mono ?_; rintro e w' ⟨rfl, rfl⟩) | (refine (C2.out _).mono ?_; rintro e w' ⟨rfl, rfl⟩) | (refine (C3.out _).mono ?_; rintro e w' ⟨rfl, rfl⟩)) | (go_at_call 27; refine (CN.out _ (Below.alloc (Below.refl _ _) (Nat.le_refl _) _)).mono ?_; rintro e w1 ⟨hb, v3, rfl, hs3⟩; have hb5 := (Below.alloc (Below.refl _ _) (Nat.le_refl _) _).trans (hb.mono (by simp)); have HB5 := Lib.hid hb5; have HI1 := Lib.hid (HI.out.next hb5); have HS3 := Lib.hid hs3; obtain ⟨g1, g2⟩ := HI1.out.facts; clear hb hb5 hs3) | (at_builtin; go_must (refine append_sl rfl _ _ 47 rfl (w.heap.size + 2) 62 Try.underlying47 infoSpan rfl (by decide) (v := .slice sa sp.length scap) (n := sp.length) (xs := sp.flatMap spanC) rfl HI1.out.own (m := cs.length) (news := cs.flatMap spanC) rfl HS3.out hcs.1 (spans_one cs) (by omega) HI1.out.size ?_); intro g cap1 w2 hown hgrow hlie hglt; obtain ⟨g3, g4⟩ := HI1.out.facts_grown hgrow; have HP := Lib.hid (HI1.out.push cs rfl hown hgrow); clear hown hgrow hlie hglt))
            go_step3
            refine ⟨rfl, ⟨k + m, sp ++ cs, _, hmn, by omega, by rw [List.length_append]; omega, fr_intro rfl, HP.out, HR2.out⟩, ?_⟩
            simp [intOf]; omega
        | none =>
          have HEL : Hid (∀ W, Below wr.heap.size wr W → ∀ (j : Nat) (y : Sg), l[j]? = some y → ∀ i : Int, i = j → ∃ b o, (∀ w' : World, (Instr.indexAt 51 (.slice a n cap) (.int .i64 i)).run Try.prog w' = .ok (.pointer (some ⟨b, o, none⟩)) w') ∧ b < wr.heap.size ∧ W.cell? ⟨b, o, none⟩ = some (.int .u8 ((y.b.toNat : Nat) : Int)) ∧ W.cell? ⟨b, o + 1, none⟩ = some (.bool y.q)) := Lib.hid fun W hW j y hy i hi => by
            obtain ⟨b, o, z1, z2, z3, z4⟩ := sg_at (HHL.out.below (hW.mono (by omega))) hy i hi
            rw [← HN.out] at z1
            exact ⟨b, o, z1, by omega, z3, z4⟩
          have hone : ∀ c : UInt8, (match rangeS (l.drop (k + 1)) with | some z => c = z | none => c = x.b) → R = setS (decide ((if (rangeS (l.drop (k + 1))).isSome then k + 3 else k + 1) = f0)) (if (rangeS (l.drop (k + 1))).isSome then k + 3 else k + 1) (sp ++ [(x.b, c)]) (l.drop (if (rangeS (l.drop (k + 1))).isSome then k + 3 else k + 1)) := fun c hc => by
            rw [HRR.out, hdr]
            cases hrg : rangeS (l.drop (k + 1)) with
            | some z =>
              rw [hrg] at hc
              subst hc
              rw [setS_range hend (by rw [← hdr]; exact hN) hrg]
              simp only [Option.isSome_some, if_true]
              rw [List.drop_drop, decide_eq_false (show ¬ k + 3 = f0 by omega)]
            | none =>
              rw [hrg] at hc
              subst hc
              rw [setS_one hend (by rw [← hdr]; exact hN) hrg]
              simp only [Option.isSome_none, Bool.false_eq_true, if_false]
              rw [decide_eq_false (show ¬ k + 1 = f0 by omega)]
          have HONE := Lib.hid hone
          have HX := Lib.hid hx
          clear hdr hq1 hed hend hN hone hx
          by_cases h2 : k + 2 < n
          · obtain ⟨y, hy⟩ : ∃ y, l[k + 1]? = some y := ⟨_, List.getElem?_eq_getElem (by rw [← HN.out]; omega)⟩
            obtain ⟨z, hzz⟩ : ∃ z, l[k + 2]? = some z := ⟨_, List.getElem?_eq_getElem (by rw [← HN.out]; omega)⟩
            have hd1 : l.drop (k + 1) = y :: z :: l.drop (k + 3) := by rw [drop_cons hy, drop_cons hzz]
            obtain ⟨q2, hq2⟩ : ∃ r, isb y 45 = r := ⟨_, rfl⟩
            obtain ⟨q3, hq3⟩ : ∃ r, isb z 93 = r := ⟨_, rfl⟩
            have C2 := is_at y 45 q2 hq2 45 rfl
            have C3 := is_at z 93 q3 hq3 93 rfl
            have hrg : rangeS (l.drop (k + 1)) = if q2 && !q3 then some z.b else none := by rw [hd1, rangeS, hq2, hq3]
            have HY := Lib.hid hy
            have HZ := Lib.hid hzz
            have h2' : (k : Int) + 1 + 1 < n := by omega
            have HO := HONE.out
            clear hy hzz hd1 hq2 hq3
            cases q2 with
            | true =>
              cases q3 with
              | true =>
                rw [hrg] at HO
                have HR2 := Lib.hid (HO x.b rfl)
                simp at HR2
                clear HO hrg
                rcases hk5 with rfl | ⟨rfl, rfl⟩
                · skip
                  go_wp2_with (first | (go_at_call 22; with_reducible first | (refine (C1.out _).mono ?_; rintro e w' ⟨rfl, rfl⟩) | (refine (C2.out _).mono ?_; rintro e w' ⟨rfl, rfl⟩) | (refine (C3.out _).mono ?_; rintro e w' ⟨rfl, rfl⟩)) | (go_at_call 27; refine (CN.out _ (Below.alloc (Below.refl _ _) (Nat.le_refl _) _)).mono ?_; rintro e w1 ⟨hb, v3, x3, rfl⟩; have hb5 := (Below.alloc (Below.refl _ _) (Nat.le_refl _) _).trans (hb.mono (by simp)); have HI1 := Lib.hid (HI.out.next hb5); have hw1 := HI1.out.size; have hw0 := Nat.lt_of_succ_lt hw1; have hsz := hb5.size; obtain ⟨g1, g2⟩ := HI1.out.facts; have e1 := (hb5.cell (p := ⟨b1, o1, none⟩) hb1').trans c1; obtain ⟨b2, o2, i2, hb2, c2, d2⟩ := HEL.out _ hb5 (k + 1) y HY.out ((k : Int) + 1) (by omega); obtain ⟨b3, o3, i3, hb3, c3, d3⟩ := HEL.out _ hb5 (k + 2) z HZ.out ((k : Int) + 1 + 1) (by omega); have hb22 := Nat.lt_of_lt_of_le hb2 hsz; have hb33 := Nat.lt_of_lt_of_le hb3 hsz; clear hb hb5) | (at_builtin; go_must (refine append_sl rfl _ _ 47 rfl (w.heap.size + 2) 62 Try.underlying47 infoSpan rfl (by decide) (v := .slice sa sp.length scap) (n := sp.length) (xs := sp.flatMap spanC) rfl (HI1.out.next (Below.alloc (Below.alloc (Below.alloc (Below.refl _ _) (Nat.le_refl _) _) (by simp) _) (by simp; omega) _)).own (m := 1) (news := [.int .u8 ((x.b.toNat : Nat) : Int), .int .u8 ((x.b.toNat : Nat) : Int)]) rfl (sl_made_at _ #[.int .u8 ((x.b.toNat : Nat) : Int), .int .u8 ((x.b.toNat : Nat) : Int)] _ 1 2 rfl (by unfold maxLen; omega) (by simp)) (by omega) (spans_one [(x.b, x.b)]) (by omega) (HI1.out.next (Below.alloc (Below.alloc (Below.alloc (Below.refl _ _) (Nat.le_refl _) _) (by simp) _) (by simp; omega) _)).size ?_); intro g cap1 w2 hown hgrow hlie hglt; obtain ⟨g3, g4⟩ := (HI1.out.next (Below.alloc (Below.alloc (Below.alloc (Below.refl _ _) (Nat.le_refl _) _) (by simp) _) (by simp; omega) _)).facts_grown hgrow; have HP := Lib.hid ((HI1.out.next (Below.alloc (Below.alloc (Below.alloc (Below.refl _ _) (Nat.le_refl _) _) (by simp) _) (by simp; omega) _)).push [(x.b, x.b)] rfl hown hgrow); clear hown hgrow hlie hglt))
                  go_step3
                  refine ⟨rfl, ⟨k + 1, sp ++ [(x.b, x.b)], _, by omega, by omega, by rw [List.length_append]; simp; omega, fr_intro rfl, HP.out, HR2.out⟩, ?_⟩
                  simp [intOf]; omega
                · skip
                  go_wp2_with (first | (go_at_call 22; with_reducible first | (refine (C1.out _).mono ?_; rintro e w' ⟨rfl, rfl⟩) | (refine (C2.out _).mono ?_; rintro e w' ⟨rfl, rfl⟩) | (refine (C3.out _).mono ?_; rintro e w' ⟨rfl, rfl⟩)) | (go_at_call 27; refine (CN.out _ (Below.alloc (Below.refl _ _) (Nat.le_refl _) _)).mono ?_; rintro e w1 ⟨hb, v3, x3, rfl⟩; have hb5 := (Below.alloc (Below.refl _ _) (Nat.le_refl _) _).trans (hb.mono (by simp)); have HI1 := Lib.hid (HI.out.next hb5); have hw1 := HI1.out.size; have hw0 := Nat.lt_of_succ_lt hw1; have hsz := hb5.size; obtain ⟨g1, g2⟩ := HI1.out.facts; have e1 := (hb5.cell (p := ⟨b1, o1, none⟩) hb1').trans c1; obtain ⟨b2, o2, i2, hb2, c2, d2⟩ := HEL.out _ hb5 (k + 1) y HY.out ((k : Int) + 1) (by omega); obtain ⟨b3, o3, i3, hb3, c3, d3⟩ := HEL.out _ hb5 (k + 2) z HZ.out ((k : Int) + 1 + 1) (by omega); have hb22 := Nat.lt_of_lt_of_le hb2 hsz; have hb33 := Nat.lt_of_lt_of_le hb3 hsz; clear hb hb5) | (at_builtin; go_must (refine append_sl rfl _ _ 47 rfl (w.heap.size + 2) 62 Try.underlying47 infoSpan rfl (by decide) (v := .slice sa sp.length scap) (n := sp.length) (xs := sp.flatMap spanC) rfl (HI1.out.next (Below.alloc (Below.alloc (Below.alloc (Below.refl _ _) (Nat.le_refl _) _) (by simp) _) (by simp; omega) _)).own (m := 1) (news := [.int .u8 ((x.b.toNat : Nat) : Int), .int .u8 ((x.b.toNat : Nat) : Int)]) rfl (sl_made_at _ #[.int .u8 ((x.b.toNat : Nat) : Int), .int .u8 ((x.b.toNat : Nat) : Int)] _ 1 2 rfl (by unfold maxLen; omega) (by simp)) (by omega) (spans_one [(x.b, x.b)]) (by omega) (HI1.out.next (Below.alloc (Below.alloc (Below.alloc (Below.refl _ _) (Nat.le_refl _) _) (by simp) _) (by simp; omega) _)).size ?_); intro g cap1 w2 hown hgrow hlie hglt; obtain ⟨g3, g4⟩ := (HI1.out.next (Below.alloc (Below.alloc (Below.alloc (Below.refl _ _) (Nat.le_refl _) _) (by simp) _) (by simp; omega) _)).facts_grown hgrow; have HP := Lib.hid ((HI1.out.next (Below.alloc (Below.alloc (Below.alloc (Below.refl _ _) (Nat.le_refl _) _) (by simp) _) (by simp; omega) _)).push [(x.b, x.b)] rfl hown hgrow); clear hown hgrow hlie hglt))
                  go_step3
                  refine ⟨rfl, ⟨k + 1, sp ++ [(x.b, x.b)], _, by omega, by omega, by rw [List.length_append]; simp; omega, fr_intro rfl, HP.out, HR2.out⟩, ?_⟩
                  simp [intOf]; omega
              | false =>
                rw [hrg] at HO
                have HR2 := Lib.hid (HO z.b rfl)
                simp at HR2
                clear HO hrg
                rcases hk5 with rfl | ⟨rfl, rfl⟩
                · skip
                  go_wp2_with (first | (go_at_call 22; with_reducible first | (refine (C1.out _).mono ?_; rintro e w' ⟨rfl, rfl⟩) | (refine (C2.out _).mono ?_; rintro e w' ⟨rfl, rfl⟩) | (refine (C3.out _).mono ?_; rintro e w' ⟨rfl, rfl⟩)) | (go_at_call 27; refine (CN.out _ (Below.alloc (Below.refl _ _) (Nat.le_refl _) _)).mono ?_; rintro e w1 ⟨hb, v3, x3, rfl⟩; have hb5 := (Below.alloc (Below.refl _ _) (Nat.le_refl _) _).trans (hb.mono (by simp)); have HI1 := Lib.hid (HI.out.next hb5); have hw1 := HI1.out.size; have hw0 := Nat.lt_of_succ_lt hw1; have hsz := hb5.size; obtain ⟨g1, g2⟩ := HI1.out.facts; have e1 := (hb5.cell (p := ⟨b1, o1, none⟩) hb1').trans c1; obtain ⟨b2, o2, i2, hb2, c2, d2⟩ := HEL.out _ hb5 (k + 1) y HY.out ((k : Int) + 1) (by omega); obtain ⟨b3, o3, i3, hb3, c3, d3⟩ := HEL.out _ hb5 (k + 2) z HZ.out ((k : Int) + 1 + 1) (by omega); have hb22 := Nat.lt_of_lt_of_le hb2 hsz; have hb33 := Nat.lt_of_lt_of_le hb3 hsz; clear hb hb5) | (at_builtin; go_must (refine append_sl rfl _ _ 47 rfl (w.heap.size + 2) 62 Try.underlying47 infoSpan rfl (by decide) (v := .slice sa sp.length scap) (n := sp.length) (xs := sp.flatMap spanC) rfl (HI1.out.next (Below.alloc (Below.alloc (Below.alloc (Below.refl _ _) (Nat.le_refl _) _) (by simp) _) (by simp; omega) _)).own (m := 1) (news := [.int .u8 ((x.b.toNat : Nat) : Int), .int .u8 ((z.b.toNat : Nat) : Int)]) rfl (sl_made_at _ #[.int .u8 ((x.b.toNat : Nat) : Int), .int .u8 ((z.b.toNat : Nat) : Int)] _ 1 2 rfl (by unfold maxLen; omega) (by simp)) (by omega) (spans_one [(x.b, z.b)]) (by omega) (HI1.out.next (Below.alloc (Below.alloc (Below.alloc (Below.refl _ _) (Nat.le_refl _) _) (by simp) _) (by simp; omega) _)).size ?_); intro g cap1 w2 hown hgrow hlie hglt; obtain ⟨g3, g4⟩ := (HI1.out.next (Below.alloc (Below.alloc (Below.alloc (Below.refl _ _) (Nat.le_refl _) _) (by simp) _) (by simp; omega) _)).facts_grown hgrow; have HP := Lib.hid ((HI1.out.next (Below.alloc (Below.alloc (Below.alloc (Below.refl _ _) (Nat.le_refl _) _) (by simp) _) (by simp; omega) _)).push [(x.b, z.b)] rfl hown hgrow); clear hown hgrow hlie hglt))
                  go_step3
                  refine ⟨rfl, ⟨k + 3, sp ++ [(x.b, z.b)], _, by omega, by omega, by rw [List.length_append]; simp; omega, fr_intro rfl, HP.out, HR2.out⟩, ?_⟩
                  simp [intOf]; omega
                · skip
                  go_wp2_with (first | (go_at_call 22; with_reducible first | (refine (C1.out _).mono ?_; rintro e w' ⟨rfl, rfl⟩) | (refine (C2.out _).mono ?_; rintro e w' ⟨rfl, rfl⟩) | (refine (C3.out _).mono ?_; rintro e w' ⟨rfl, rfl⟩)) | (go_at_call 27; refine (CN.out _ (Below.alloc (Below.refl _ _) (Nat.le_refl _) _)).mono ?_; rintro e w1 ⟨hb, v3, x3, rfl⟩; have hb5 := (Below.alloc (Below.refl _ _) (Nat.le_refl _) _).trans (hb.mono (by simp)); have HI1 := Lib.hid (HI.out.next hb5); have hw1 := HI1.out.size; have hw0 := Nat.lt_of_succ_lt hw1; have hsz := hb5.size; obtain ⟨g1, g2⟩ := HI1.out.facts; have e1 := (hb5.cell (p := ⟨b1, o1, none⟩) hb1').trans c1; obtain ⟨b2, o2, i2, hb2, c2, d2⟩ := HEL.out _ hb5 (k + 1) y HY.out ((k : Int) + 1) (by omega); obtain ⟨b3, o3, i3, hb3, c3, d3⟩ := HEL.out _ hb5 (k + 2) z HZ.out ((k : Int) + 1 + 1) (by omega); have hb22 := Nat.lt_of_lt_of_le hb2 hsz; have hb33 := Nat.lt_of_lt_of_le hb3 hsz; clear hb hb5) | (at_builtin; go_must (refine append_sl rfl _ _ 47 rfl (w.heap.size + 2) 62 Try.underlying47 infoSpan rfl (by decide) (v := .slice sa sp.length scap) (n := sp.length) (xs := sp.flatMap spanC) rfl (HI1.out.next (Below.alloc (Below.alloc (Below.alloc (Below.refl _ _) (Nat.le_refl _) _) (by simp) _) (by simp; omega) _)).own (m := 1) (news := [.int .u8 ((x.b.toNat : Nat) : Int), .int .u8 ((z.b.toNat : Nat) : Int)]) rfl (sl_made_at _ #[.int .u8 ((x.b.toNat : Nat) : Int), .int .u8 ((z.b.toNat : Nat) : Int)] _ 1 2 rfl (by unfold maxLen; omega) (by simp)) (by omega) (spans_one [(x.b, z.b)]) (by omega) (HI1.out.next (Below.alloc (Below.alloc (Below.alloc (Below.refl _ _) (Nat.le_refl _) _) (by simp) _) (by simp; omega) _)).size ?_); intro g cap1 w2 hown hgrow hlie hglt; obtain ⟨g3, g4⟩ := (HI1.out.next (Below.alloc (Below.alloc (Below.alloc (Below.refl _ _) (Nat.le_refl _) _) (by simp) _) (by simp; omega) _)).facts_grown hgrow; have HP := Lib.hid ((HI1.out.next (Below.alloc (Below.alloc (Below.alloc (Below.refl _ _) (Nat.le_refl _) _) (by simp) _) (by simp; omega) _)).push [(x.b, z.b)] rfl hown hgrow); clear hown hgrow hlie hglt))
                  go_step3
                  refine ⟨rfl, ⟨k + 3, sp ++ [(x.b, z.b)], _, by omega, by omega, by rw [List.length_append]; simp; omega, fr_intro rfl, HP.out, HR2.out⟩, ?_⟩
                  simp [intOf]; omega
            | false =>
              rw [hrg] at HO
              have HR2 := Lib.hid (HO x.b rfl)
              simp at HR2
              clear HO hrg C3
              rcases hk5 with rfl | ⟨rfl, rfl⟩
              · skip
                go_wp2_with (first | (go_at_call 22; with_reducible first | (refine (C1.out _).mono ?_; rintro e w' ⟨rfl, rfl⟩) | (refine (C2.out _).mono ?_; rintro e w' ⟨rfl, rfl⟩) | (refine (C3.out _).mono ?_; rintro e w' ⟨rfl, rfl⟩)) | (go_at_call 27; refine (CN.out _ (Below.alloc (Below.refl _ _) (Nat.le_refl _) _)).mono ?_; rintro e w1 ⟨hb, v3, x3, rfl⟩; have hb5 := (Below.alloc (Below.refl _ _) (Nat.le_refl _) _).trans (hb.mono (by simp)); have HI1 := Lib.hid (HI.out.next hb5); have hw1 := HI1.out.size; have hw0 := Nat.lt_of_succ_lt hw1; have hsz := hb5.size; obtain ⟨g1, g2⟩ := HI1.out.facts; have e1 := (hb5.cell (p := ⟨b1, o1, none⟩) hb1').trans c1; obtain ⟨b2, o2, i2, hb2, c2, d2⟩ := HEL.out _ hb5 (k + 1) y HY.out ((k : Int) + 1) (by omega); have hb22 := Nat.lt_of_lt_of_le hb2 hsz; clear hb hb5) | (at_builtin; go_must (refine append_sl rfl _ _ 47 rfl (w.heap.size + 2) 62 Try.underlying47 infoSpan rfl (by decide) (v := .slice sa sp.length scap) (n := sp.length) (xs := sp.flatMap spanC) rfl (HI1.out.next (Below.alloc (Below.alloc (Below.refl _ _) (Nat.le_refl _) _) (by simp) _)).own (m := 1) (news := [.int .u8 ((x.b.toNat : Nat) : Int), .int .u8 ((x.b.toNat : Nat) : Int)]) rfl (sl_made_at _ #[.int .u8 ((x.b.toNat : Nat) : Int), .int .u8 ((x.b.toNat : Nat) : Int)] _ 1 2 rfl (by unfold maxLen; omega) (by simp)) (by omega) (spans_one [(x.b, x.b)]) (by omega) (HI1.out.next (Below.alloc (Below.alloc (Below.refl _ _) (Nat.le_refl _) _) (by simp) _)).size ?_); intro g cap1 w2 hown hgrow hlie hglt; obtain ⟨g3, g4⟩ := (HI1.out.next (Below.alloc (Below.alloc (Below.refl _ _) (Nat.le_refl _) _) (by simp) _)).facts_grown hgrow; have HP := Lib.hid ((HI1.out.next (Below.alloc (Below.alloc (Below.refl _ _) (Nat.le_refl _) _) (by simp) _)).push [(x.b, x.b)] rfl hown hgrow); clear hown hgrow hlie hglt))
                go_step3
                refine ⟨rfl, ⟨k + 1, sp ++ [(x.b, x.b)], _, by omega, by omega, by rw [List.length_append]; simp; omega, fr_intro rfl, HP.out, HR2.out⟩, ?_⟩
                simp [intOf]; omega
              · skip
                go_wp2_with (first | (go_at_call 22; with_reducible first | (refine (C1.out _).mono ?_; rintro e w' ⟨rfl, rfl⟩) | (refine (C2.out _).mono ?_; rintro e w' ⟨rfl, rfl⟩) | (refine (C3.out _).mono ?_; rintro e w' ⟨rfl, rfl⟩)) | (go_at_call 27; refine (CN.out _ (Below.alloc (Below.refl _ _) (Nat.le_refl _) _)).mono ?_; rintro e w1 ⟨hb, v3, x3, rfl⟩; have hb5 := (Below.alloc (Below.refl _ _) (Nat.le_refl _) _).trans (hb.mono (by simp)); have HI1 := Lib.hid (HI.out.next hb5); have hw1 := HI1.out.size; have hw0 := Nat.lt_of_succ_lt hw1; have hsz := hb5.size; obtain ⟨g1, g2⟩ := HI1.out.facts; have e1 := (hb5.cell (p := ⟨b1, o1, none⟩) hb1').trans c1; obtain ⟨b2, o2, i2, hb2, c2, d2⟩ := HEL.out _ hb5 (k + 1) y HY.out ((k : Int) + 1) (by omega); have hb22 := Nat.lt_of_lt_of_le hb2 hsz; clear hb hb5) | (at_builtin; go_must (refine append_sl rfl _ _ 47 rfl (w.heap.size + 2) 62 Try.underlying47 infoSpan rfl (by decide) (v := .slice sa sp.length scap) (n := sp.length) (xs := sp.flatMap spanC) rfl (HI1.out.next (Below.alloc (Below.alloc (Below.refl _ _) (Nat.le_refl _) _) (by simp) _)).own (m := 1) (news := [.int .u8 ((x.b.toNat : Nat) : Int), .int .u8 ((x.b.toNat : Nat) : Int)]) rfl (sl_made_at _ #[.int .u8 ((x.b.toNat : Nat) : Int), .int .u8 ((x.b.toNat : Nat) : Int)] _ 1 2 rfl (by unfold maxLen; omega) (by simp)) (by omega) (spans_one [(x.b, x.b)]) (by omega) (HI1.out.next (Below.alloc (Below.alloc (Below.refl _ _) (Nat.le_refl _) _) (by simp) _)).size ?_); intro g cap1 w2 hown hgrow hlie hglt; obtain ⟨g3, g4⟩ := (HI1.out.next (Below.alloc (Below.alloc (Below.refl _ _) (Nat.le_refl _) _) (by simp) _)).facts_grown hgrow; have HP := Lib.hid ((HI1.out.next (Below.alloc (Below.alloc (Below.refl _ _) (Nat.le_refl _) _) (by simp) _)).push [(x.b, x.b)] rfl hown hgrow); clear hown hgrow hlie hglt))
                go_step3
                refine ⟨rfl, ⟨k + 1, sp ++ [(x.b, x.b)], _, by omega, by omega, by rw [List.length_append]; simp; omega, fr_intro rfl, HP.out, HR2.out⟩, ?_⟩
                simp [intOf]; omega
          · have hrg : rangeS (l.drop (k + 1)) = none := by
              cases hrg : rangeS (l.drop (k + 1)) with
              | none => rfl
              | some z => have := rangeS_len hrg; rw [List.length_drop, ← HN.out] at this; omega
            have HO := HONE.out
            rw [hrg] at HO
            have HR2 := Lib.hid (HO x.b rfl)
            simp at HR2
            have h2' : ¬ (k : Int) + 1 + 1 < n := by omega
            clear HO hrg
            rcases hk5 with rfl | ⟨rfl, rfl⟩
            · skip
              go_wp2_with (first | (go_at_call 22; with_reducible first | (refine (C1.out _).mono ?_; rintro e w' ⟨rfl, rfl⟩) | (refine (C2.out _).mono ?_; rintro e w' ⟨rfl, rfl⟩) | (refine (C3.out _).mono ?_; rintro e w' ⟨rfl, rfl⟩)) | (go_at_call 27; refine (CN.out _ (Below.alloc (Below.refl _ _) (Nat.le_refl _) _)).mono ?_; rintro e w1 ⟨hb, v3, x3, rfl⟩; have hb5 := (Below.alloc (Below.refl _ _) (Nat.le_refl _) _).trans (hb.mono (by simp)); have HI1 := Lib.hid (HI.out.next hb5); have hw1 := HI1.out.size; have hw0 := Nat.lt_of_succ_lt hw1; have hsz := hb5.size; obtain ⟨g1, g2⟩ := HI1.out.facts; have e1 := (hb5.cell (p := ⟨b1, o1, none⟩) hb1').trans c1; skip; clear hb hb5) | (at_builtin; go_must (refine append_sl rfl _ _ 47 rfl (w.heap.size + 2) 62 Try.underlying47 infoSpan rfl (by decide) (v := .slice sa sp.length scap) (n := sp.length) (xs := sp.flatMap spanC) rfl (HI1.out.next (Below.alloc (Below.refl _ _) (Nat.le_refl _) _)).own (m := 1) (news := [.int .u8 ((x.b.toNat : Nat) : Int), .int .u8 ((x.b.toNat : Nat) : Int)]) rfl (sl_made_at _ #[.int .u8 ((x.b.toNat : Nat) : Int), .int .u8 ((x.b.toNat : Nat) : Int)] _ 1 2 rfl (by unfold maxLen; omega) (by simp)) (by omega) (spans_one [(x.b, x.b)]) (by omega) (HI1.out.next (Below.alloc (Below.refl _ _) (Nat.le_refl _) _)).size ?_); intro g cap1 w2 hown hgrow hlie hglt; obtain ⟨g3, g4⟩ := (HI1.out.next (Below.alloc (Below.refl _ _) (Nat.le_refl _) _)).facts_grown hgrow; have HP := Lib.hid ((HI1.out.next (Below.alloc (Below.refl _ _) (Nat.le_refl _) _)).push [(x.b, x.b)] rfl hown hgrow); clear hown hgrow hlie hglt))
              go_step3
              refine ⟨rfl, ⟨k + 1, sp ++ [(x.b, x.b)], _, by omega, by omega, by rw [List.length_append]; simp; omega, fr_intro rfl, HP.out, HR2.out⟩, ?_⟩
              simp [intOf]; omega
            · skip
              go_wp2_with (first | (go_at_call 22; with_reducible first | (refine (C1.out _).mono ?_; rintro e w' ⟨rfl, rfl⟩) | (refine (C2.out _).mono ?_; rintro e w' ⟨rfl, rfl⟩) | (refine (C3.out _).mono ?_; rintro e w' ⟨rfl, rfl⟩)) | (go_at_call 27; refine (CN.out _ (Below.alloc (Below.refl _ _) (Nat.le_refl _) _)).mono ?_; rintro e w1 ⟨hb, v3, x3, rfl⟩; have hb5 := (Below.alloc (Below.refl _ _) (Nat.le_refl _) _).trans (hb.mono (by simp)); have HI1 := Lib.hid (HI.out.next hb5); have hw1 := HI1.out.size; have hw0 := Nat.lt_of_succ_lt hw1; have hsz := hb5.size; obtain ⟨g1, g2⟩ := HI1.out.facts; have e1 := (hb5.cell (p := ⟨b1, o1, none⟩) hb1').trans c1; skip; clear hb hb5) | (at_builtin; go_must (refine append_sl rfl _ _ 47 rfl (w.heap.size + 2) 62 Try.underlying47 infoSpan rfl (by decide) (v := .slice sa sp.length scap) (n := sp.length) (xs := sp.flatMap spanC) rfl (HI1.out.next (Below.alloc (Below.refl _ _) (Nat.le_refl _) _)).own (m := 1) (news := [.int .u8 ((x.b.toNat : Nat) : Int), .int .u8 ((x.b.toNat : Nat) : Int)]) rfl (sl_made_at _ #[.int .u8 ((x.b.toNat : Nat) : Int), .int .u8 ((x.b.toNat : Nat) : Int)] _ 1 2 rfl (by unfold maxLen; omega) (by simp)) (by omega) (spans_one [(x.b, x.b)]) (by omega) (HI1.out.next (Below.alloc (Below.refl _ _) (Nat.le_refl _) _)).size ?_); intro g cap1 w2 hown hgrow hlie hglt; obtain ⟨g3, g4⟩ := (HI1.out.next (Below.alloc (Below.refl _ _) (Nat.le_refl _) _)).facts_grown hgrow; have HP := Lib.hid ((HI1.out.next (Below.alloc (Below.refl _ _) (Nat.le_refl _) _)).push [(x.b, x.b)] rfl hown hgrow); clear hown hgrow hlie hglt))
              go_step3
              refine ⟨rfl, ⟨k + 1, sp ++ [(x.b, x.b)], _, by omega, by omega, by rw [List.length_append]; simp; omega, fr_intro rfl, HP.out, HR2.out⟩, ?_⟩
              simp [intOf]; omega
    · obtain rfl : k = n := by omega
      have hR : R = none := by rw [HRR.out, List.drop_of_length_le (by rw [← HN.out]; omega), setS_nil]
      subst hR
      go_wp2_with fail
      simp only [Exit.jump]
      have hfin := (((HI.out.res.put 0 (.int .u8 0)).put 1 (.int .u8 0)).put 2 (.bool false)).put 3 (.slice none 0 0)
      refine bodyPost_ret (set_results rfl hfin) rfl ⟨?_, rfl⟩
      have hb := HI.out.bel
      exact (((hb.setCell (p := ⟨w.heap.size, 0, none⟩) (Nat.le_refl _) _).setCell (p := ⟨w.heap.size, 1, none⟩) (Nat.le_refl _) _).setCell (p := ⟨w.heap.size, 2, none⟩) (Nat.le_refl _) _).setCell (p := ⟨w.heap.size, 3, none⟩) (Nat.le_refl _) _
  · intro hR
    by_cases h0 : 0 < n
    · obtain ⟨x, hx⟩ : ∃ x, l[0]? = some x := ⟨_, List.getElem?_eq_getElem (by rw [← HN.out]; omega)⟩
      obtain ⟨t, ht⟩ : ∃ t, l = x :: t := by
        cases l with
        | nil => simp at hx
        | cons y t => simp at hx; exact ⟨t, by rw [hx]⟩
      have hl0 := HL0.out
      rw [HN.out] at hl0
      obtain ⟨b1, o1, i1, hb1, c1, d1⟩ := sg_at hl0 hx 0 rfl
      rw [← HN.out] at i1
      have hb3 : ∀ p q r : Obj, Below w.heap.size w (((w.alloc p).alloc q).alloc r) := fun p q r => Below.alloc (Below.alloc (Below.alloc (Below.refl _ _) (Nat.le_refl _) _) (by simp) _) (by simp; omega) _
      have c3 : ∀ p q r : Obj, (((w.alloc p).alloc q).alloc r).cell? ⟨b1, o1, none⟩ = some (.int .u8 ((x.b.toNat : Nat) : Int)) := fun p q r => ((hb3 p q r).cell (p := ⟨b1, o1, none⟩) hb1).trans c1
      have d3 : ∀ p q r : Obj, (((w.alloc p).alloc q).alloc r).cell? ⟨b1, o1 + 1, none⟩ = some (.bool x.q) := fun p q r => ((hb3 p q r).cell (p := ⟨b1, o1 + 1, none⟩) hb1).trans d1
      clear hb3
      obtain ⟨q1, hq1⟩ : ∃ r, isb x 33 = r := ⟨_, rfl⟩
      obtain ⟨q2, hq2⟩ : ∃ r, isb x 94 = r := ⟨_, rfl⟩
      have C1 := is_at x 33 q1 hq1 33 rfl
      have C2 := is_at x 94 q2 hq2 94 rfl
      have hng : neg = (q1 || q2) := by rw [HNEG.out, ht, notS, hq1, hq2]
      have hf : f0 = if neg then 1 else 0 := by rw [HF.out, off0, HNEG.out]
      clear hl0 hx ht hq1 hq2
      cases q1 with
      | true =>
        obtain rfl : neg = true := by rw [hng]; rfl
        obtain rfl : f0 = 1 := by rw [hf]; rfl
        clear hng hf
        go_wp2_with (go_at_call 22; with_reducible first | (refine (C1.out _).mono ?_; rintro e w' ⟨rfl, rfl⟩) | (refine (C2.out _).mono ?_; rintro e w' ⟨rfl, rfl⟩))
        go_step3
        go_step
        go_step
        exact hR.out _ _ ⟨1, [], .slice none 0 0, by omega, Nat.le_refl _, Nat.zero_le _, fr_intro rfl, (PInv.start w true).next (Below.alloc (Below.refl _ _) (Nat.le_refl _) _), by rw [HR.out]; simp⟩
      | false =>
        cases q2 with
        | true =>
          obtain rfl : neg = true := by rw [hng]; rfl
          obtain rfl : f0 = 1 := by rw [hf]; rfl
          clear hng hf
          go_wp2_with (go_at_call 22; with_reducible first | (refine (C1.out _).mono ?_; rintro e w' ⟨rfl, rfl⟩) | (refine (C2.out _).mono ?_; rintro e w' ⟨rfl, rfl⟩))
          go_step3
          go_step
          go_step
          exact hR.out _ _ ⟨1, [], .slice none 0 0, by omega, Nat.le_refl _, Nat.zero_le _, fr_intro rfl, (PInv.start w true).next (Below.alloc (Below.alloc (Below.refl _ _) (Nat.le_refl _) _) (by simp) _), by rw [HR.out]; simp⟩
        | false =>
          obtain rfl : neg = false := by rw [hng]; rfl
          obtain rfl : f0 = 0 := by rw [hf]; rfl
          clear hng hf
          go_wp2_with (go_at_call 22; with_reducible first | (refine (C1.out _).mono ?_; rintro e w' ⟨rfl, rfl⟩) | (refine (C2.out _).mono ?_; rintro e w' ⟨rfl, rfl⟩))
          go_step3
          go_step
          go_step
          exact hR.out _ _ ⟨0, [], .slice none 0 0, by omega, Nat.le_refl _, Nat.zero_le _, fr_intro rfl, (PInv.start w false).next (Below.alloc (Below.alloc (Below.refl _ _) (Nat.le_refl _) _) (by simp) _), by rw [HR.out]; simp⟩
    · obtain rfl : n = 0 := by omega
      have hl0 : l = [] := List.length_eq_zero_iff.1 HN.out.symm
      obtain rfl : neg = false := by rw [HNEG.out, hl0]; rfl
      obtain rfl : f0 = 0 := by rw [HF.out, hl0]; rfl
      clear hl0
      go_wp2_with fail
      go_step3
      go_step
      go_step
      exact hR.out _ _ ⟨0, [], .slice none 0 0, by omega, Nat.le_refl _, Nat.zero_le _, fr_intro rfl, PInv.start w false, by rw [HR.out]; simp⟩
end Go.Proofs.Ytiacoomeakodnaa
