/-
  The walk of the document's New.
-/
import Derived.Test.YthfnkgofkdahfaaGreatDoorB9
import Derived.Deep.RegionLaw
namespace Go.Proofs.YthfnkgofkdahfaaGreatDoor
open Go.RowKit

theorem rnew_results {w : World} {b : Nat} {tmps : Array Value} {c0 c1 c2 c3 : Value} (h2 : tmps[6]?.getD undef = .pointer (some ⟨b, 0, none⟩)) (h : Blk w b 30 #[c0, c1, c2, c3]) :
    (results Tryz.f7 tmps).run Tryz.prog w = .ok (.agg #[c0, c1, c2, c3]) w := by
  have q0 := h.cell 0
  have q1 := h.cell 1
  have q2 := h.cell 2
  have q3 := h.cell 3
  simp at q0 q1 q2 q3
  simp [results, Tryz.results7, go_sem, h2, q0, q1, q2, q3]
/-- At the first '='. -/
theorem addE_at {l : List (Nm × Xd)} {s : Nm} {j : Nat} (hj : j < s.length) (hno : 61 ∉ s.take j) (hc : s.getD j 0 = 61) : addE l s = if nameL (s.take j) then putL l (s.take j) ⟨s.drop (j + 1), true, true, false⟩ else l := by
  have e : s = s.take j ++ 61 :: s.drop (j + 1) := by
    conv => lhs; rw [← List.take_append_drop j s, drop_getD s hj, hc]
  have h1 : Lib.cut s [61] = (s.take j, s.drop (j + 1), true) := by
    conv => lhs; rw [e]
    exact cut_ent hno
  rw [addE, h1]
  simp
theorem addE_no {l : List (Nm × Xd)} {s : Nm} (hno : 61 ∉ s) : addE l s = l := by
  rw [addE, cut_no hno]
  simp
theorem newL_len (es : List Nm) : ∀ k, k ≤ es.length → (newL (es.take k)).length ≤ k
  | 0, _ => by simp [newL]
  | k + 1, h => by
    have ih := newL_len es k (by omega)
    rw [newL_succ (List.getElem?_eq_getElem (show k < es.length by omega)), addE]
    split
    · have := List.length_filter_le (fun p : Nm × Xd => decide (p.1 < (Lib.cut es[k] [61]).1)) (newL (es.take k))
      have h2 : ∀ (l : List (Nm × Xd)) (nm : Nm) (x : Xd), (putL l nm x).length ≤ l.length + 1 := fun l nm x => by
        rw [putL, List.length_append, List.length_cons]
        have h3 : (l.filter fun p => decide (p.1 < nm)).length + (l.filter fun p => decide (nm < p.1)).length ≤ l.length := by
          induction l with
          | nil => simp
          | cons p r ih =>
            rw [List.filter_cons, List.filter_cons, List.length_cons]
            by_cases q1 : p.1 < nm
            · have q2 : ¬ nm < p.1 := fun q => nm_irrefl _ (nm_trans q1 q)
              simp only [q1, q2, decide_true, decide_false, if_true, Bool.false_eq_true, if_false, List.length_cons]
              omega
            · by_cases q2 : nm < p.1
              · simp only [q1, q2, decide_true, decide_false, if_true, Bool.false_eq_true, if_false, List.length_cons]
                omega
              · simp only [q1, q2, decide_false, Bool.false_eq_true, if_false]
                omega
        omega
      exact Nat.le_trans (h2 _ _ _) (by omega)
    · omega

set_option maxHeartbeats 2000000 in
set_option maxRecDepth 100000 in
theorem rnew_any (ae : Option Addr) (ne ce : Nat) (es : List ByteArray) (a : Option Addr) (n c : Nat) (ss : List ByteArray) (w : World) (B : Nat) (hE : Elems w B ae ne (es.map .string)) (h : Elems w B a n (ss.map .string)) (hB : B ≤ w.heap.size) (hne : ne ≤ 900)
    (hz : ∀ s ∈ es, s.size ≤ 100000000) (hc : n ≤ c) (hcm : c ≤ maxLen) :
    Calls Tryz.prog 7 #[.slice ae ne ce, .string ⟨#[115, 104]⟩, .slice a n c] w fun e w' => ∃ V', e = .returned V' ∧ RSt w' w.heap.size B V' (newL (es.map L)) ss 0 ∧ Below w.heap.size w w' := by
  have hel : es.length = ne := by simpa using hE.1
  have hsl : ss.length = n := by simpa using h.1
  obtain ⟨be, oe, re, _, ce'⟩ := hE.open 22 9 Tryz.underlying22 (by kernel_rfl)
  have HEL := Lib.hid hel
  have HSL := Lib.hid hsl
  have RE := Lib.hid re
  have CE : Hid (∀ W, Below w.heap.size w W → ∀ k, k < ne → ∀ x, es[k]? = some x → W.cell? ⟨be, oe + k, none⟩ = some (.string x)) := Lib.hid fun W hW k hk x hx => by
    have h1 := ce' k hk
    rw [List.getElem?_map, hx, Option.map_some] at h1
    exact (hW.cell (World.block_lt_of_cell? w _ h1)).trans h1
  have HZ := Lib.hid hz
  have HA : Hid (EA w B a c ss) := Lib.hid ⟨by rw [hsl]; exact h, by rw [hsl]; exact hc, hcm⟩
  have HBB := Lib.hid hB
  clear h hE hel hsl re ce' hz hB hc hcm
  go_enter Tryz.func7, Tryz.ntmps7
  go_wp2_with fail
  obtain ⟨w3, hw3⟩ : ∃ W, W = (w.alloc (.cells #[.slice none 0 0, .string ⟨#[]⟩, .slice none 0 0, .int .i64 0] 30)).alloc (.cells #[.slice none 0 0, .string ⟨#[115, 104]⟩, .slice a n c, .int .i64 0] 30) := ⟨_, rfl⟩
  have HB3 : Hid (Below w.heap.size w w3) := Lib.hid (by rw [hw3]; exact ((Below.refl _ _).alloc (Nat.le_refl _) _).alloc (by simp) _)
  have X6 : Hid (Blk w3 w.heap.size 30 #[.slice none 0 0, .string ⟨#[]⟩, .slice none 0 0, .int .i64 0]) := Lib.hid (by rw [hw3]; exact (Blk.new w _ _).alloc _)
  have X7 : Hid (Blk w3 (w.heap.size + 1) 30 #[.slice none 0 0, .string ⟨#[115, 104]⟩, .slice a n c, .int .i64 0]) := Lib.hid (by rw [hw3]; have := Blk.new (w.alloc (.cells #[.slice none 0 0, .string ⟨#[]⟩, .slice none 0 0, .int .i64 0] 30)) 30 #[.slice none 0 0, .string ⟨#[115, 104]⟩, .slice a n c, .int .i64 0]; simpa using this)
  have hs3 : w.heap.size + 2 ≤ w3.heap.size := by rw [hw3]; simp
  rw [← hw3]
  clear hw3
  go_loopw [8] (fun i wr => ∃ (k : Nat) (va : Option Addr) (vc : Nat), k ≤ ne ∧ i = .int .i64 k ∧ Blk wr (w.heap.size + 1) 30 #[.slice va (newL ((es.map L).take k)).length vc, .string ⟨#[115, 104]⟩, .slice a n c, .int .i64 0] ∧ LSt wr (w.heap.size + 2) (.slice va (newL ((es.map L).take k)).length vc) (newL ((es.map L).take k)) ∧ Blk wr w.heap.size 30 #[.slice none 0 0, .string ⟨#[]⟩, .slice none 0 0, .int .i64 0] ∧ Below w.heap.size w wr ∧ w.heap.size + 2 ≤ wr.heap.size) (fun i _ => ne - (intOf i).toNat)
  case atStart => exact ⟨0, none, 0, Nat.zero_le _, rfl, X7.out, World.ownsRow_nil _ _ _ _, X6.out, HB3.out, hs3⟩
  case round =>
    obtain ⟨k, va, vc, hk, rfl, hX7, hL, hX6, hb, hsz⟩ := hrel
    have hmn : ((es.map L).take k).length ≤ k := by rw [List.length_take]; omega
    have hll := newL_len (es.map L) k (by rw [List.length_map, HEL.out]; exact hk)
    obtain ⟨D, hD⟩ : ∃ D, D = newL ((es.map L).take k) := ⟨_, rfl⟩
    rw [← hD] at hL hX7 hll
    have HX7 := Lib.hid hX7
    have HX6 := Lib.hid hX6
    have HL := Lib.hid hL
    have HB := Lib.hid hb
    have HD := Lib.hid hD
    have hs1 : w.heap.size + 1 < wr.heap.size := by omega
    have y70 := hX7.cell 0
    have y71 := hX7.cell 1
    have y72 := hX7.cell 2
    have y73 := hX7.cell 3
    simp at y70 y71 y72 y73
    clear hX7 hX6 hL hb hD hmn
    by_cases hlt : k < ne
    · have hkl : k < es.length := by rw [HEL.out]; exact hlt
      obtain ⟨s, hx⟩ : ∃ x, es[k]? = some x := ⟨_, List.getElem?_eq_getElem hkl⟩
      have hLk : (es.map L)[k]? = some (L s) := by rw [List.getElem?_map, hx]; rfl
      have hsn := newL_succ hLk
      rw [← HD.out] at hsn
      have HSN := Lib.hid hsn
      have hsz1 := HZ.out s (List.mem_of_getElem? hx)
      have d1 := CE.out wr HB.out k hlt s hx
      have j1 := fun w' => RE.out k ce w' hlt
      obtain ⟨wo, rfl⟩ : ∃ wo : World, wo = wr := ⟨_, rfl⟩
      clear hx hLk hsn hkl
      go_wp2_with fail
      go_loop [9] (fun i => ∃ j : Nat, j ≤ s.size ∧ i = .int .i64 j ∧ 61 ∉ (L s).take j) (fun i => s.size - (intOf i).toNat)
      case atStart => exact ⟨0, Nat.zero_le _, rfl, by simp⟩
      case round =>
        obtain ⟨j, hj, rfl, hno⟩ := hrel
        have HNO := Lib.hid hno
        clear hno
        by_cases hlj : j < s.size
        · have i0 := run_idx (P := Tryz.prog) (k := .i64) Tryz.underlying9 s (j : Int) j rfl hlj
          obtain ⟨c1, hc1⟩ : ∃ c, c = (L s).getD j 0 := ⟨_, rfl⟩
          rw [← hc1] at i0
          have HC1 := Lib.hid hc1
          clear hc1
          by_cases h61 : c1 = 61
          · have e61 : (((c1.toNat : Nat) : Int) == 61) = true := by rw [h61]; rfl
            have H61 := Lib.hid h61
            clear h61
            have HAD : Hid (newL ((es.map L).take (k + 1)) = if nameL ((L s).take j) then putL D ((L s).take j) ⟨(L s).drop (j + 1), true, true, false⟩ else D) := Lib.hid (HSN.out.trans (addE_at (s := L s) hlj HNO.out (HC1.out.symm.trans H61.out)))
            obtain ⟨isn, hisn⟩ : ∃ b, nameL ((L s).take j) = b := ⟨_, rfl⟩
            have CN : Hid (∀ W, Calls Tryz.prog 15 #[.string (s.extract 0 j)] W fun e w' => e = .returned (.bool isn) ∧ W = w') := Lib.hid fun W => by
              have h1 := rname_any (S ((L s).take j)) W (by unfold maxLen; rw [S_size, List.length_take, L_size]; omega)
              rw [L_S, hisn, ← S_extract_to] at h1
              exact h1
            rw [hisn] at HAD
            clear hisn
            go_wp2_with fail
            refine (CN.out _).mono ?_
            rintro e w4 ⟨rfl, rfl⟩
            cases isn with
            | false =>
              go_wp2_with fail
              go_roundw
              case rel => exact ⟨k + 1, va, vc, by omega, by go_num, by rw [HAD.out]; exact HX7.out, by rw [HAD.out]; exact HL.out, HX6.out, HB.out, hsz⟩
              case measure => simp [intOf]; omega
            | true =>
              have hl1 : (L s).length = s.size := rfl
              have CP : Hid (∀ W, Below wo.heap.size wo W → Calls Tryz.prog 16 #[.agg #[.slice va D.length vc, .string ⟨#[115, 104]⟩, .slice a n c, .int .i64 0], .agg #[.string (s.extract 0 j), .string (s.extract (j + 1) s.size), .bool true, .bool true, .bool false]] W fun e w' =>
                  ∃ pa pc, e = .returned (.agg #[.slice pa (newL ((es.map L).take (k + 1))).length pc, .string ⟨#[115, 104]⟩, .slice a n c, .int .i64 0]) ∧ LSt w' (w.heap.size + 2) (.slice pa (newL ((es.map L).take (k + 1))).length pc) (newL ((es.map L).take (k + 1))) ∧ Below wo.heap.size wo w') := Lib.hid fun W hW => by
                have h1 := put_any (.slice va D.length vc) D a n c 0 ((L s).take j) ((L s).drop (j + 1)) true true false W (w.heap.size + 2) (own_below HL.out hW) (Nat.le_trans hsz hW.size) (by omega)
                rw [show (⟨((L s).take j).toArray⟩ : ByteArray) = s.extract 0 j from (S_extract_to s j).symm, show (⟨((L s).drop (j + 1)).toArray⟩ : ByteArray) = s.extract (j + 1) s.size from (S_extract_from s (j + 1)).symm] at h1
                refine h1.mono fun e w' ⟨v', q1, q2, q3⟩ => ?_
                have hq : putL D ((L s).take j) ⟨(L s).drop (j + 1), true, true, false⟩ = newL ((es.map L).take (k + 1)) := by rw [HAD.out]; rfl
                rw [hq] at q2
                obtain ⟨pa, pc, rfl⟩ := own_shape q2
                exact ⟨pa, pc, q1, own_from q2 (Nat.le_trans hsz hW.size), hW.trans (q3.mono hW.size)⟩
              have k1 := fun V => run_sl_to (P := Tryz.prog) Tryz.underlying9 s (j : Int) j rfl (by omega) V
              have k2 := fun V => run_sl_from (P := Tryz.prog) Tryz.underlying9 s ((j : Int) + 1) (j + 1) (by omega) (by omega) V
              have k3 := wrap_in ((j : Int) + 1) (by omega)
              obtain ⟨E, hE⟩ : ∃ E, E = newL ((es.map L).take (k + 1)) := ⟨_, rfl⟩
              rw [← hE] at CP
              have HE := Lib.hid hE
              have HLJ := Lib.hid hlj
              clear hl1 hE i0 e61
              go_wp2_with fail
              go_region_law (go_simp; go_at_call 16; with_reducible refine (CP.out _ (by first | exact Below.refl _ _ | exact Below.drew (Below.refl _ _))).mono ?_; rintro e w5 ⟨pa, pc, rfl, ho5, hb5⟩; have z := HX7.out.below hb5 HX7.out.lt; have z0 := z.cell 0; have z1 := z.cell 1; have z2 := z.cell 2; have z3 := z.cell 3; have f0 := z.free 0; have f1 := z.free 1; have f2 := z.free 2; have f3 := z.free 3; simp at z0 z1 z2 z3)
              all_goals
                have HO5 := Lib.hid ho5
                have HB5 : Hid (Below w.heap.size w w5) := Lib.hid (HB.out.trans (hb5.mono HB.out.size))
                have HS5 : Hid (w.heap.size + 2 ≤ w5.heap.size) := Lib.hid (Nat.le_trans hsz hb5.size)
                have X65 := Lib.hid (HX6.out.below hb5 HX6.out.lt)
                have X75 := Lib.hid (HX7.out.below hb5 HX7.out.lt)
                clear ho5 hb5 z z0 z1 z2 z3 f0 f1 f2 f3
                go_wp2_with fail
                go_roundw
                case rel =>
                  refine ⟨k + 1, pa, pc, by omega, by go_num, ?_, ?_, ?_, ?_, ?_⟩
                  · rw [← HE.out]
                    exact X75.out.put4 (.slice pa E.length pc) (.string ⟨#[115, 104]⟩) (.slice a n c) (.int .i64 0)
                  · rw [← HE.out]
                    exact own_put4 HO5.out (by omega) _ _ _ _
                  · exact (((X65.out.far (p := ⟨w.heap.size + 1, 0, none⟩) (by simp) _).far (p := ⟨w.heap.size + 1, 1, none⟩) (by simp) _).far (p := ⟨w.heap.size + 1, 2, none⟩) (by simp) _).far (p := ⟨w.heap.size + 1, 3, none⟩) (by simp) _
                  · exact below_put4 HB5.out (Nat.le_succ _) _ _ _ _
                  · simpa using HS5.out
                case measure => simp [intOf]; omega
          · have e61 : (((c1.toNat : Nat) : Int) == 61) = false := by
              have : c1.toNat ≠ 61 := fun e => h61 (UInt8.toNat_inj.1 (by rw [e]; rfl))
              simp; omega
            have hno2 : 61 ∉ (L s).take (j + 1) := by
              rw [List.take_succ_eq_append_getElem (show j < (L s).length from hlj), List.mem_append, List.mem_singleton]
              rintro (h | h)
              · exact HNO.out h
              · refine h61 ?_
                rw [HC1.out, List.getD_eq_getElem?_getD, List.getElem?_eq_getElem (show j < (L s).length from hlj)]
                exact h.symm
            have HNO2 := Lib.hid hno2
            clear h61 hno2
            go_wp2_with fail
            go_round
            case rel => exact ⟨j + 1, by omega, by go_num, HNO2.out⟩
            case measure => simp [intOf]; omega
        · obtain rfl : j = s.size := by omega
          have HAD : Hid (newL ((es.map L).take (k + 1)) = D) := Lib.hid (by
            have h1 := HNO.out
            rw [List.take_of_length_le (show (L s).length ≤ s.size from Nat.le_refl _)] at h1
            rw [HSN.out, addE_no h1])
          go_wp2_with fail
          go_roundw
          case rel => exact ⟨k + 1, va, vc, by omega, by go_num, by rw [HAD.out]; exact HX7.out, by rw [HAD.out]; exact HL.out, HX6.out, HB.out, hsz⟩
          case measure => simp [intOf]; omega
    · obtain rfl : k = ne := by omega
      have X6' := HX6.out
      have y60 := X6'.cell 0
      have y61 := X6'.cell 1
      have y62 := X6'.cell 2
      have y63 := X6'.cell 3
      have f60 := X6'.free 0
      have f61 := X6'.free 1
      have f62 := X6'.free 2
      have f63 := X6'.free 3
      simp at y60 y61 y62 y63
      clear X6'
      go_wp2_with fail
      have hall : D = newL (es.map L) := by rw [HD.out, List.take_of_length_le (by rw [List.length_map, HEL.out]; exact Nat.le_refl _)]
      have HBF := below_put4 HB.out (Nat.le_refl _) (.slice va D.length vc) (.string ⟨#[115, 104]⟩) (.slice a n c) (.int .i64 0)
      have X9 := HX6.out.put4 (.slice va D.length vc) (.string ⟨#[115, 104]⟩) (.slice a n c) (.int .i64 0)
      refine bodyPost_ret (rnew_results rfl X9) rfl ⟨_, rfl, ⟨.slice va D.length vc, a, c, by rw [HSL.out], ?_, ?_⟩, HBF⟩
      · rw [← hall]
        exact own_from (own_put4 HL.out (by omega) _ _ _ _) (by omega)
      · exact HA.out.below (HBF.mono HBB.out)
end Go.Proofs.YthfnkgofkdahfaaGreatDoor
