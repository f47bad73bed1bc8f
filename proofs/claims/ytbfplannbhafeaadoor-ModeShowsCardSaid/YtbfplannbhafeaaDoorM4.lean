/-
  The walk of the actions.
-/
import Derived.Test.YtbfplannbhafeaaDoorM3
namespace Go.Proofs.YtbfplannbhafeaaDoor
open Go.RowKit

def actV : Option Nat → Value
  | some r => .tuple #[.int .i64 (r : Nat), .bool true]
  | none => .tuple #[.int .i64 0, .bool false]

set_option maxHeartbeats 4000000 in
set_option maxRecDepth 100000 in
theorem act_any (c : Who) (named : Bool) (s : ByteArray) (m : Nat) (dir : Bool) (mask : Nat) (w : World) (hs : s.size ≤ 100000) (hm : m < 4096) (hk : mask < 4096) (hne : L s ≠ []) (R : Option Nat) (hR : actL c named dir mask (L s) m = R) :
    Calls Tryd.prog 22 #[.agg #[.int .i64 (c.own : Nat), .int .i64 (c.bes : Nat), .bool named], .string s, .int .i64 m, .bool dir, .int .i64 mask] w fun e w' => e = .returned (actV R) ∧ Below w.heap.size w w' := by
  obtain ⟨w1, hw1⟩ : ∃ w1, w1 = w.alloc (.cells #[.int .i64 (c.own : Nat), .int .i64 (c.bes : Nat), .bool named] 41) := ⟨_, rfl⟩
  have hb1 : Below w.heap.size w w1 := by rw [hw1]; exact Below.alloc (Below.refl _ _) (Nat.le_refl _) _
  have hz1 : w1.heap.size = w.heap.size + 1 := by rw [hw1]; simp
  have hc : ClauseAt w1 w.heap.size c named := by rw [hw1]; exact ⟨by simp, by simp, by simp, by simp, by simp, by simp⟩
  have hpos : 0 < s.size := List.length_pos_iff.2 hne
  have e0 : s.toList.isEmpty = false := by rw [isEmpty_L]; simpa using hne
  have HB1 := Lib.hid hb1
  have HW1 := Lib.hid hw1
  have HC := Lib.hid hc
  have HM := Lib.hid hm
  have HR := Lib.hid hR
  clear hb1 hw1 hc hm hne hR
  go_enter Tryd.func22, Tryd.ntmps22
  go_wp2_with fail
  rw [← HW1.out]
  refine wp_scope_again 0 (fun a' w' => ∃ (r : ByteArray) (n : Nat), ∃ (u6 u7 u8 u9 u12 u13 u14 u15 u16 u17 u18 u19 u20 u21 u22 u23 u24 u25 u26 u27 u28 u29 u30 u31 u32 u33 u34 u35 u36 u37 u38 u39 u40 u41 u42 u43 u44 u45 u46 u47 u48 u49 u50 u51 u52 u53 u54 u55 u56 u57 u58 u59 u60 u61 u62 u63 u64 u65 u66 u67 u68 : Value), a' = { tmps := #[.agg #[.int .i64 (c.own : Nat), .int .i64 (c.bes : Nat), .bool named], .string r, .int .i64 (n : Nat), .bool dir, .int .i64 (mask : Nat), .pointer (some ⟨w.heap.size, 0, none⟩), u6, u7, u8, u9, .int .i64 0, .bool false, u12, u13, u14, u15, u16, u17, u18, u19, u20, u21, u22, u23, u24, u25, u26, u27, u28, u29, u30, u31, u32, u33, u34, u35, u36, u37, u38, u39, u40, u41, u42, u43, u44, u45, u46, u47, u48, u49, u50, u51, u52, u53, u54, u55, u56, u57, u58, u59, u60, u61, u62, u63, u64, u65, u66, u67, u68], defers := [] } ∧ r.size ≤ s.size ∧ n < 4096 ∧ actL c named dir mask (L r) n = R ∧ ClauseAt w' w.heap.size c named ∧ Below w.heap.size w w' ∧ w.heap.size < w'.heap.size)
    (fun a' _ => match a'.tmps.getD 1 undef with | .string t => t.size | _ => 0) rfl ?_ ?_
  · rintro a' wr ⟨r, n, u6, u7, u8, u9, u12, u13, u14, u15, u16, u17, u18, u19, u20, u21, u22, u23, u24, u25, u26, u27, u28, u29, u30, u31, u32, u33, u34, u35, u36, u37, u38, u39, u40, u41, u42, u43, u44, u45, u46, u47, u48, u49, u50, u51, u52, u53, u54, u55, u56, u57, u58, u59, u60, u61, u62, u63, u64, u65, u66, u67, u68, rfl, hrs, hn, hact, hC, hb, hz⟩
    have HACT := Lib.hid hact
    have HN := Lib.hid hn
    have HCC := Lib.hid hC
    clear hact hn e0 hpos
    cases e1 : r.toList.isEmpty with
    | true =>
      have hres : R = some n := by
        rw [isEmpty_L] at e1
        have e2 : L r = [] := by simpa using e1
        rw [← HACT.out, e2, actL_nil]
      subst hres
      go_wp2_with fail
      simp only [Exit.jump]
      go_ret2
      exact ⟨rfl, hb⟩
    | false =>
      have hrpos : 0 < r.size := by
        rw [isEmpty_L] at e1
        have h1 : L r ≠ [] := by simpa using e1
        exact List.length_pos_iff.2 h1
      have hd0 := drop_getD (L r) (show 0 < (L r).length from hrpos)
      rw [List.drop_zero] at hd0
      have i0 := run_idx (P := Tryd.prog) (k := .i64) Tryd.underlying9 r 0 0 rfl hrpos
      obtain ⟨d, hd⟩ : ∃ d, d = (L r).getD 0 0 := ⟨_, rfl⟩
      rw [← hd] at i0 hd0
      obtain ⟨v, hv, hv0⟩ := indexOf_mem d [43, 45, 61] _ (isSign_eq d)
      have C := Lib.hid (fun w => indexAt_any (S [43, 45, 61]) d v w hv)
      cases hsg : isSign d with
      | false =>
        rw [hsg] at hv0
        replace hv0 := of_decide_eq_false hv0
        have hres : R = none := by rw [← HACT.out, hd0, actL_no hsg]
        subst hres
        clear hd hd0 hv hsg
        go_wp2_with fail
        refine (C.out _).mono ?_
        rintro e w1 ⟨rfl, rfl⟩
        go_wp2_with fail
        simp only [Exit.jump]
        go_ret2
        exact ⟨rfl, hb⟩
      | true =>
        rw [hsg] at hv0
        replace hv0 := of_decide_eq_true hv0
        obtain ⟨t, ht⟩ : ∃ t, t = r.extract 1 r.size := ⟨_, rfl⟩
        have htl : L t = (L r).drop 1 := by rw [ht, S_extract_from, L_S]
        have hts : t.size < r.size := by rw [ht, ByteArray.size_extract]; omega
        obtain ⟨q, hq⟩ : ∃ q, q = S ((L t).dropWhile isLet) := ⟨_, rfl⟩
        have hqs : q.size ≤ t.size := by rw [hq, S_size]; have := dropWhile_le isLet (L t); rw [L_size] at this; exact this
        obtain ⟨st, hst⟩ : ∃ st, st = letsN c (anyB dir n) 0 ((L t).takeWhile isLet) := ⟨_, rfl⟩
        have hst4 : st < 4096 := by rw [hst]; exact letsN_lt _ _ _ _ (by omega)
        have hnext : actL c named dir mask (L q) (doSign d n (masked named mask st) (masked named mask (c.own ||| c.bes))) = R := by
          rw [← HACT.out, hd0, actL_yes hsg, hq, L_S, hst, htl]
        have sl := run_sl_from (P := Tryd.prog) Tryd.underlying9 r 1 1 rfl hrpos
        rw [← ht] at sl
        have C2 : Hid (∀ w, Calls Tryd.prog 29 #[.agg #[.int .i64 (c.own : Nat), .int .i64 (c.bes : Nat), .bool named], .string t, .int .i64 n, .bool dir] w fun e w' => e = .returned (.tuple #[.int .i64 (st : Nat), .string q]) ∧ Below w.heap.size w w') := Lib.hid fun w => by
          rw [hst, hq]
          exact bits_any c named t n dir w (by omega) HN.out
        have HNEXT := Lib.hid hnext
        have HST := Lib.hid hst4
        have HSG := Lib.hid hsg
        obtain ⟨x1, x2, x3, x4, x5, x6⟩ := hC
        clear hd hd0 hv hsg htl hst hq hst4 hnext ht
        go_wp2_with fail
        refine (C.out _).mono ?_
        rintro e w1 ⟨rfl, rfl⟩
        go_wp2_with fail
        go_region_held3 (fun w' => w'.cell? ⟨w.heap.size, 0, none⟩ = some (.int .i64 (c.own : Nat)) ∧ w'.cell? ⟨w.heap.size, 1, none⟩ = some (.int .i64 (c.bes : Nat)) ∧ w'.cell? ⟨w.heap.size, 2, none⟩ = some (.bool named)) (go_keep)
          (first | (go_at_call 29; refine (C2.out _).mono ?_; rintro e w2 ⟨rfl, hb2⟩; have k1 := hb2.cell (p := ⟨w.heap.size, 0, none⟩) (by simpa using hz); have k2 := hb2.cell (p := ⟨w.heap.size, 1, none⟩) (by simpa using hz); have k3 := hb2.cell (p := ⟨w.heap.size, 2, none⟩) (by simpa using hz)))
        have hd1 : Below w1.heap.size w1 w1.drew := below_drewN (Below.refl _ _) 1
        have hb3 : Below w1.heap.size w1 w2 := hd1.trans (hb2.mono hd1.size)
        have HCC2 := Lib.hid (HCC.out.below hb3 hz)
        have HB3 := Lib.hid (hb.trans (hb3.mono hb.size))
        have HZ := Lib.hid (show w.heap.size < w2.heap.size by have := hb3.size; omega)
        obtain ⟨y1, y2, y3, y4, y5, y6⟩ := HCC2.out
        obtain ⟨st2, hst2⟩ : ∃ st2, st2 = masked named mask st := ⟨_, rfl⟩
        obtain ⟨ob, hob⟩ : ∃ ob, ob = c.own ||| c.bes := ⟨_, rfl⟩
        have hob4 : ob < 4096 := by rw [hob]; exact Nat.or_lt_two_pow (n := 12) (by have := own_le c; omega) (by have := bes_le c; omega)
        obtain ⟨gn, hgn⟩ : ∃ gn, gn = masked named mask ob := ⟨_, rfl⟩
        have hst24 : st2 < 4096 := by rw [hst2]; exact masked_lt _ _ _ HST.out
        have hgn4 : gn < 4096 := by rw [hgn]; exact masked_lt _ _ _ hob4
        obtain ⟨N, hN⟩ : ∃ N, N = doSign d n st2 gn := ⟨_, rfl⟩
        have HNX : Hid (actL c named dir mask (L q) N = R) := Lib.hid (by rw [hN, hst2, hgn, hob]; exact HNEXT.out)
        have HN4 : Hid (N < 4096) := Lib.hid (by rw [hN]; exact doSign_lt _ _ _ _ HN.out hst24)
        have hvob : bits BinOp.or .i64 ((c.own : Nat) : Int) ((c.bes : Nat) : Int) = (ob : Int) := by rw [hob]; exact bits_or64 _ _ (by have := own_le c; omega) (by have := bes_le c; omega)
        have hn4 := HN.out
        have hst4 := HST.out
        clear x1 x2 x3 x4 x5 x6 k1 k2 k3 hd1 hb3 hob
        cases hnm : named with
        | true =>
          subst hnm
          have e2 : st2 = st := by rw [hst2, masked, if_pos rfl]
          have e3 : gn = ob := by rw [hgn, masked, if_pos rfl]
          subst e2 e3
          by_cases h1 : d = 43
          · have hv1 : bits BinOp.or .i64 (n : Int) (st2 : Int) = (N : Int) := by rw [hN, doSign, if_pos h1]; exact bits_or64 _ _ (by omega) (by omega)
            subst h1
            clear hN hgn hst2 hob4 hst24 hgn4 hn4 hst4
            skip
            go_wp2_with fail
            go_step3
            refine ⟨rfl, ⟨q, N, _, _, _, _, _, _, _, _, _, _, _, _, _, _, _, _, _, _, _, _, _, _, _, _, _, _, _, _, _, _, _, _, _, _, _, _, _, _, _, _, _, _, _, _, _, _, _, _, _, _, _, _, _, _, _, _, _, _, _, _, _, rfl, by omega, HN4.out, HNX.out, HCC2.out, HB3.out, HZ.out⟩, ?_⟩
            simp; omega
          · by_cases h2 : d = 45
            · have hv1 : bits BinOp.andNot .i64 (n : Int) (st2 : Int) = (N : Int) := by rw [hN, doSign, if_neg h1, if_pos h2]; exact bits_not64 _ _ (by omega)
              subst h2
              clear hN hgn hst2 hob4 hst24 hgn4 hn4 hst4 h1
              skip
              go_wp2_with fail
              go_step3
              refine ⟨rfl, ⟨q, N, _, _, _, _, _, _, _, _, _, _, _, _, _, _, _, _, _, _, _, _, _, _, _, _, _, _, _, _, _, _, _, _, _, _, _, _, _, _, _, _, _, _, _, _, _, _, _, _, _, _, _, _, _, _, _, _, _, _, _, _, _, rfl, by omega, HN4.out, HNX.out, HCC2.out, HB3.out, HZ.out⟩, ?_⟩
              simp; omega
            · have h3 : d = 61 := by
                have := HSG.out
                simpa [isSign, h1, h2] using this
              obtain ⟨ng, hng⟩ : ∃ ng, ng = andN n gn := ⟨_, rfl⟩
              have hng4 : ng < 4096 := by rw [hng]; exact andN_le _ _ hn4
              have hv1 : bits BinOp.andNot .i64 (n : Int) (gn : Int) = (ng : Int) := by rw [hng]; exact bits_not64 _ _ (by omega)
              have hv2 : bits BinOp.or .i64 (ng : Int) (st2 : Int) = (N : Int) := by rw [hN, doSign, if_neg h1, if_neg h2, hng]; exact bits_or64 _ _ (by rw [← hng]; omega) (by omega)
              subst h3
              clear hN hgn hst2 hob4 hst24 hgn4 hn4 hst4 h1 h2 hng hng4
              skip
              skip
              go_wp2_with fail
              go_step3
              refine ⟨rfl, ⟨q, N, _, _, _, _, _, _, _, _, _, _, _, _, _, _, _, _, _, _, _, _, _, _, _, _, _, _, _, _, _, _, _, _, _, _, _, _, _, _, _, _, _, _, _, _, _, _, _, _, _, _, _, _, _, _, _, _, _, _, _, _, _, rfl, by omega, HN4.out, HNX.out, HCC2.out, HB3.out, HZ.out⟩, ?_⟩
              simp; omega
        | false =>
          subst hnm
          have CF1 : Hid (∀ w, Calls Tryd.prog 17 #[.int .i64 st, .int .i64 mask] w fun e w' => e = .returned (.int .i64 (st2 : Nat)) ∧ w' = w) := Lib.hid fun w => by
            rw [hst2, masked, if_neg (by decide)]; exact fresh_any st mask w hst4 hk
          have CF2 : Hid (∀ w, Calls Tryd.prog 17 #[.int .i64 ob, .int .i64 mask] w fun e w' => e = .returned (.int .i64 (gn : Nat)) ∧ w' = w) := Lib.hid fun w => by
            rw [hgn, masked, if_neg (by decide)]; exact fresh_any ob mask w hob4 hk
          by_cases h1 : d = 43
          · have hv1 : bits BinOp.or .i64 (n : Int) (st2 : Int) = (N : Int) := by rw [hN, doSign, if_pos h1]; exact bits_or64 _ _ (by omega) (by omega)
            subst h1
            clear hN hgn hst2 hob4 hst24 hgn4 hn4 hst4
            (go_wp2_with fail; refine (CF1.out _).mono ?_; rintro e w3 ⟨rfl, rfl⟩)
            go_wp2_with fail
            go_step3
            refine ⟨rfl, ⟨q, N, _, _, _, _, _, _, _, _, _, _, _, _, _, _, _, _, _, _, _, _, _, _, _, _, _, _, _, _, _, _, _, _, _, _, _, _, _, _, _, _, _, _, _, _, _, _, _, _, _, _, _, _, _, _, _, _, _, _, _, _, _, rfl, by omega, HN4.out, HNX.out, HCC2.out, HB3.out, HZ.out⟩, ?_⟩
            simp; omega
          · by_cases h2 : d = 45
            · have hv1 : bits BinOp.andNot .i64 (n : Int) (st2 : Int) = (N : Int) := by rw [hN, doSign, if_neg h1, if_pos h2]; exact bits_not64 _ _ (by omega)
              subst h2
              clear hN hgn hst2 hob4 hst24 hgn4 hn4 hst4 h1
              (go_wp2_with fail; refine (CF1.out _).mono ?_; rintro e w3 ⟨rfl, rfl⟩)
              go_wp2_with fail
              go_step3
              refine ⟨rfl, ⟨q, N, _, _, _, _, _, _, _, _, _, _, _, _, _, _, _, _, _, _, _, _, _, _, _, _, _, _, _, _, _, _, _, _, _, _, _, _, _, _, _, _, _, _, _, _, _, _, _, _, _, _, _, _, _, _, _, _, _, _, _, _, _, rfl, by omega, HN4.out, HNX.out, HCC2.out, HB3.out, HZ.out⟩, ?_⟩
              simp; omega
            · have h3 : d = 61 := by
                have := HSG.out
                simpa [isSign, h1, h2] using this
              obtain ⟨ng, hng⟩ : ∃ ng, ng = andN n gn := ⟨_, rfl⟩
              have hng4 : ng < 4096 := by rw [hng]; exact andN_le _ _ hn4
              have hv1 : bits BinOp.andNot .i64 (n : Int) (gn : Int) = (ng : Int) := by rw [hng]; exact bits_not64 _ _ (by omega)
              have hv2 : bits BinOp.or .i64 (ng : Int) (st2 : Int) = (N : Int) := by rw [hN, doSign, if_neg h1, if_neg h2, hng]; exact bits_or64 _ _ (by rw [← hng]; omega) (by omega)
              subst h3
              clear hN hgn hst2 hob4 hst24 hgn4 hn4 hst4 h1 h2 hng hng4
              (go_wp2_with fail; refine (CF1.out _).mono ?_; rintro e w3 ⟨rfl, rfl⟩)
              (go_wp2_with fail; refine (CF2.out _).mono ?_; rintro e w3 ⟨rfl, rfl⟩)
              go_wp2_with fail
              go_step3
              refine ⟨rfl, ⟨q, N, _, _, _, _, _, _, _, _, _, _, _, _, _, _, _, _, _, _, _, _, _, _, _, _, _, _, _, _, _, _, _, _, _, _, _, _, _, _, _, _, _, _, _, _, _, _, _, _, _, _, _, _, _, _, _, _, _, _, _, _, _, rfl, by omega, HN4.out, HNX.out, HCC2.out, HB3.out, HZ.out⟩, ?_⟩
              simp; omega
  · intro hR
    go_wp2_with fail
    go_step3
    go_step
    go_step
    exact hR.out _ _ ⟨s, m, _, _, _, _, _, _, _, _, _, _, _, _, _, _, _, _, _, _, _, _, _, _, _, _, _, _, _, _, _, _, _, _, _, _, _, _, _, _, _, _, _, _, _, _, _, _, _, _, _, _, _, _, _, _, _, _, _, _, _, _, _, rfl, Nat.le_refl _, HM.out, HR.out, HC.out, HB1.out, by omega⟩
end Go.Proofs.YtbfplannbhafeaaDoor
