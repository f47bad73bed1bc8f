/-
  The walk of Param.
-/
import Derived.Test.YthfnkgofkdahfaaGreatDoorP5
import Derived.Lib.AppendIntMem
import Derived.Lib.AtoiBound
import Derived.Lib.QuietBelow
import Derived.Deep.RegionHeld3
namespace Go.Proofs.YthfnkgofkdahfaaGreatDoor
open Go.RowKit

/-- The table of the powers of ten lies as it was laid. -/
def Tab (w : World) : Prop := Lib.TabIs Tryz.prog w "internal/strconv.uint64pow10" .u64 Lib.pow10Tab ∧ 3 < w.heap.size
theorem Tab.below {w w' : World} (h : Tab w) {B : Nat} (hB : 3 < B) (hb : Below B w w') : Tab w' := by
  obtain ⟨h1, h2⟩ := h
  have hg : Tryz.prog.globalNamed "internal/strconv.uint64pow10" = some 3 := by kernel_rfl
  refine ⟨?_, Nat.lt_of_lt_of_le h2 hb.size⟩
  unfold Lib.TabIs World.var? at h1 ⊢
  rw [hg] at h1 ⊢
  simp only [Option.bind_some] at h1 ⊢
  rw [hb.block _ hB]
  exact h1
theorem Tab.on {w w' : World} (h : Tab w) (hb : Below w.heap.size w w') : Tab w' := h.below h.2 hb
theorem vitoa_any (n : Int) (h0 : -9223372036854775808 ≤ n) (h1 : n ≤ 9223372036854775807) (w : World) (htab : Tab w) :
    Calls Tryz.prog 40 #[.int .i64 n] w fun e w' => e = .returned (.string ⟨(Lib.itoa n).toArray⟩) ∧ Below w.heap.size w w' :=
  (Tryz.strconv_Itoa n h0 h1 w htab.1).mono fun e w' ⟨h1, k, os, h2⟩ => ⟨h1, by rw [h2]; exact Lib.below_grow w.heap.size w (Nat.le_refl _) k os⟩
theorem vjoin_any (a : Option Addr) (c : Nat) (xs : List ByteArray) (w : World) (B : Nat) (h : Elems w B a xs.length (xs.map .string)) (hB : B ≤ w.heap.size) (hc : xs.length ≤ c) (hx : xs.length ≤ 50) (hz : ∀ s ∈ xs, s.size ≤ 1048576) :
    Calls Tryz.prog 41 #[.slice a xs.length c, .string ⟨#[32]⟩] w fun e w' => e = .returned (.string ⟨(Lib.join (xs.map L) [32]).toArray⟩) ∧ Below w.heap.size w w' := by
  by_cases h0 : xs.length = 0
  · obtain rfl : xs = [] := List.length_eq_zero_iff.1 h0
    exact (Tryz.strings_Join_none a c ⟨#[32]⟩ w).mono fun e w' ⟨h1, h2⟩ => ⟨h1, by rw [h2]; exact Below.refl _ _⟩
  · rcases h.2.2 with h3 | ⟨b, off, rfl, hb, hcell⟩
    · exact absurd h3 h0
    · refine Tryz.strings_Join b off c xs ⟨#[32]⟩ w (fun j x hj => ?_) (by omega) (by omega) hc ?_
      · have hjl : j < xs.length := (List.getElem?_eq_some_iff.1 hj).1
        rw [hcell j hjl, List.getElem?_map, hj]; rfl
      · refine Nat.le_trans (join_len _ _ (Z := 1048576) fun y hy => ?_) ?_
        · obtain ⟨s, hs, rfl⟩ := List.mem_map.1 hy
          exact hz s hs
        · rw [List.length_map]
          exact Nat.le_trans (Nat.mul_le_mul hx (Nat.le_refl (1048576 + 1))) (by decide)

theorem own_ea {w : World} {B : Nat} {v : Value} {xs : List ByteArray} (h : OwnS w B v xs) (hx : xs.length ≤ 1000) : ∃ a c, v = .slice a xs.length c ∧ EA w w.heap.size a c xs := by
  have h' := h
  obtain ⟨_, h2⟩ := h'
  rcases h2 with ⟨rfl, h3⟩ | ⟨g, cap, cur, rfl, hg, hb, hnc, hcm, _⟩
  · obtain rfl : xs = [] := List.length_eq_zero_iff.1 h3
    exact ⟨none, 0, rfl, ⟨rfl, Nat.zero_le _, .inl rfl⟩, Nat.le_refl _, Nat.zero_le _⟩
  · obtain ⟨a, c, e, hE⟩ := h.elems (by unfold maxLen; omega)
    cases e
    exact ⟨_, _, rfl, hE, hnc, hcm⟩

section
variable {lo g mb n : Nat} {l : List (Nm × Xd)} {xs : List ByteArray} {st : Int}
set_option maxHeartbeats 2000000 in
set_option maxRecDepth 100000 in
theorem vparam_any (s : ByteArray) (w : World) (hV : VSt w lo g mb n l xs st) (hx : xs.length ≤ 50) (hz : ∀ s ∈ xs, s.size ≤ 1048576) (hst : -9223372036854775808 ≤ st ∧ st ≤ 9223372036854775807) (hsz : s.size ≤ 100) (htab : Tab w) :
    Calls Tryz.prog 11 #[.pointer (some ⟨g, 0, none⟩), .string s] w fun e w' => e = .returned (.tuple #[.string ⟨(paramL l (xs.map L) st (L s)).1.toArray⟩, .bool (paramL l (xs.map L) st (L s)).2]) ∧ Below w.heap.size w w' := by
  have HV := Lib.hid hV
  obtain ⟨v, m, q1, q2, q3, q4, q5, q6, q7, q8⟩ := hV
  obtain ⟨a, c, rfl, hE⟩ := own_ea q4 (by omega)
  obtain ⟨N, hN⟩ : ∃ n, n = xs.length := ⟨_, rfl⟩
  have hnl : (xs.map L).length = N := by rw [List.length_map, hN]
  have hlg := q3.lt
  have y1 := q3.cell 1
  have y2 := q3.cell 2
  have y3 := q3.cell 3
  simp at y1 y2 y3
  rw [← hN] at y2
  have CJ : Hid (∀ W, Below w.heap.size w W → Calls Tryz.prog 41 #[.slice a N c, .string ⟨#[32]⟩] W fun e w' => e = .returned (.string ⟨(Lib.join (xs.map L) [32]).toArray⟩) ∧ Below W.heap.size W w' ∧ Below w.heap.size w w') := Lib.hid fun W hW => by
    rw [hN]
    exact (vjoin_any a c xs W w.heap.size (hE.below hW).1 hW.size hE.2.1 hx hz).mono fun e w' h => ⟨h.1, h.2, hW.trans (h.2.mono hW.size)⟩
  have C1 : Hid (∀ W, Below w.heap.size w W → Calls Tryz.prog 40 #[.int .i64 st] W fun e w' => e = .returned (.string ⟨(Lib.itoa st).toArray⟩) ∧ Below W.heap.size W w') := Lib.hid fun W hW => vitoa_any st hst.1 hst.2 W (htab.on hW)
  have C2 : Hid (∀ W, Below w.heap.size w W → Calls Tryz.prog 40 #[.int .i64 (N : Int)] W fun e w' => e = .returned (.string ⟨(Lib.decDigits N).toArray⟩) ∧ Below W.heap.size W w') := Lib.hid fun W hW => by
    have := vitoa_any (N : Int) (by omega) (by omega) W (htab.on hW)
    rwa [Lib.itoa_nonneg] at this
  have CG : Hid (∀ W, Below w.heap.size w W → Calls Tryz.prog 27 #[.pointer (some ⟨g, 0, none⟩), .string s] W fun e w' => e = .returned (.tuple #[.string ⟨(find l (L s)).text.toArray⟩, .bool (find l (L s)).set]) ∧ Below W.heap.size W w') := Lib.hid fun W hW => vget_any s W (HV.out.below hW) (by unfold maxLen; omega)
  have HE := Lib.hid hE
  have HN := Lib.hid hN
  have HNL := Lib.hid hnl
  have HSZ := Lib.hid hsz
  have HXX : Hid (N ≤ 50) := Lib.hid (by rw [hN]; exact hx)
  have hN50 : N ≤ 50 := HXX.out
  clear hE hN hnl hz hst hx htab hsz q1 q2 q3 q4 q5 q6 q7 q8
  rcases or_sign s with rfl | rfl | rfl | rfl | rfl | rfl | rfl | rfl | hpl
  ·
    have HP : Hid (paramL l (xs.map L) st (L ⟨#[48]⟩) = ([115, 104], true)) := Lib.hid rfl
    rw [HP.out]
    clear HP
    go_enter Tryz.func11, Tryz.ntmps11
    go_wp2_with fail
    go_ret2
    exact ⟨rfl, Below.refl _ _⟩
  · have HP : Hid (paramL l (xs.map L) st (L ⟨#[35]⟩) = (Lib.decDigits N, true)) := Lib.hid (by rw [← HNL.out]; rfl)
    rw [HP.out]
    clear HP
    go_enter Tryz.func11, Tryz.ntmps11
    go_wp2_with fail
    refine (C2.out _ (Below.refl _ _)).mono ?_
    rintro e w1 ⟨rfl, hb1⟩
    have HB1 := Lib.hid hb1
    clear hb1
    go_wp2_with fail
    go_ret2
    exact ⟨rfl, HB1.out⟩
  · have HP : Hid (paramL l (xs.map L) st (L ⟨#[63]⟩) = (Lib.itoa st, true)) := Lib.hid rfl
    rw [HP.out]
    clear HP
    go_enter Tryz.func11, Tryz.ntmps11
    go_wp2_with fail
    refine (C1.out _ (Below.refl _ _)).mono ?_
    rintro e w1 ⟨rfl, hb1⟩
    have HB1 := Lib.hid hb1
    clear hb1
    go_wp2_with fail
    go_ret2
    exact ⟨rfl, HB1.out⟩
  ·
    have HP : Hid (paramL l (xs.map L) st (L ⟨#[36]⟩) = ([49], true)) := Lib.hid rfl
    rw [HP.out]
    clear HP
    go_enter Tryz.func11, Tryz.ntmps11
    go_wp2_with fail
    go_ret2
    exact ⟨rfl, Below.refl _ _⟩
  ·
    have HP : Hid (paramL l (xs.map L) st (L ⟨#[45]⟩) = ([], true)) := Lib.hid rfl
    rw [HP.out]
    clear HP
    go_enter Tryz.func11, Tryz.ntmps11
    go_wp2_with fail
    go_ret2
    exact ⟨rfl, Below.refl _ _⟩
  ·
    have HP : Hid (paramL l (xs.map L) st (L ⟨#[33]⟩) = ([], false)) := Lib.hid rfl
    rw [HP.out]
    clear HP
    go_enter Tryz.func11, Tryz.ntmps11
    go_wp2_with fail
    go_ret2
    exact ⟨rfl, Below.refl _ _⟩
  ·
    have HP : Hid (paramL l (xs.map L) st (L ⟨#[64]⟩) = (Lib.join (xs.map L) [32], decide (0 < N))) := Lib.hid (by rw [← HNL.out]; rfl)
    rw [HP.out]
    clear HP
    go_enter Tryz.func11, Tryz.ntmps11
    go_wp2_with fail
    go_region_held3 (fun W => W.cell? ⟨g, 2, none⟩ = some (.slice a N c)) (first | exact d2 | exact y2 | go_keep) ((go_at_call 41; with_reducible refine (CJ.out _ ?_).mono ?_; (first | exact Below.refl _ _ | exact Below.drew (Below.refl _ _)); rintro e w1 ⟨rfl, _, hb1⟩; have d2 := (hb1.cell (p := ⟨g, 2, none⟩) hlg).trans y2))
    all_goals
      go_wp2_with fail
      go_ret2
      exact ⟨by first | rfl | simp, by first | exact hb1 | exact Below.drew hb1⟩
  ·
    have HP : Hid (paramL l (xs.map L) st (L ⟨#[42]⟩) = (Lib.join (xs.map L) [32], decide (0 < N))) := Lib.hid (by rw [← HNL.out]; rfl)
    rw [HP.out]
    clear HP
    go_enter Tryz.func11, Tryz.ntmps11
    go_wp2_with fail
    go_region_held3 (fun W => W.cell? ⟨g, 2, none⟩ = some (.slice a N c)) (first | exact d2 | exact y2 | go_keep) ((go_at_call 41; with_reducible refine (CJ.out _ ?_).mono ?_; (first | exact Below.refl _ _ | exact Below.drew (Below.refl _ _)); rintro e w1 ⟨rfl, _, hb1⟩; have d2 := (hb1.cell (p := ⟨g, 2, none⟩) hlg).trans y2))
    all_goals
      go_wp2_with fail
      go_ret2
      exact ⟨by first | rfl | simp, by first | exact hb1 | exact Below.drew hb1⟩
  · obtain ⟨p1, p2, p3, p4, p5, p6, p7, p8⟩ := id hpl
    have e1 := ne_sign p1
    have e2 := ne_sign p2
    have e3 := ne_sign p3
    have e4 := ne_sign p4
    have e5 := ne_sign p5
    have e6 := ne_sign p6
    have e7 := ne_sign p7
    have e8 := ne_sign p8
    have CN : Hid (Calls Tryz.prog 42 #[.string s] w fun e w' => e = .returned (.bool (numB (L s))) ∧ Below w.heap.size w w') := Lib.hid (number_any s w (by unfold maxLen; have := HSZ.out; omega))
    have HP := Lib.hid (param_plain (l := l) (xs := xs.map L) (st := st) hpl)
    have H48 := Lib.hid p1
    obtain ⟨isn, hisn⟩ : ∃ b, numB (L s) = b := ⟨_, rfl⟩
    rw [hisn] at CN HP
    have HIS := Lib.hid hisn
    clear p1 p2 p3 p4 p5 p6 p7 p8 hpl hisn
    cases isn with
    | false =>
      rw [show paramL l (xs.map L) st (L s) = ((find l (L s)).text, (find l (L s)).set) from HP.out]
      clear HP
      obtain ⟨⟨t0, s0, e0, f0⟩, hx⟩ : ∃ x, find l (L s) = x := ⟨_, rfl⟩
      rw [hx] at CG ⊢
      simp only at CG ⊢
      clear hx
      go_enter Tryz.func11, Tryz.ntmps11
      go_wp2_with fail
      refine CN.out.mono ?_
      rintro e w1 ⟨rfl, hb1⟩
      have HB1 := Lib.hid hb1
      have CG1 := Lib.hid (CG.out w1 hb1)
      clear hb1
      go_wp2_with fail
      refine CG1.out.mono ?_
      rintro e w2 ⟨rfl, hb2⟩
      have HB2 : Hid (Below w.heap.size w w2) := Lib.hid (HB1.out.trans (hb2.mono HB1.out.size))
      clear hb2
      go_wp2_with fail
      go_ret2
      exact ⟨rfl, HB2.out⟩
    | true =>
      obtain ⟨d1, d2, d3, d4⟩ := num_split HIS.out H48.out
      obtain ⟨_, hv1⟩ := dec_val _ (L s) rfl d1 d2 d3
      obtain ⟨k, hk⟩ : ∃ k, valN (L s) = k + 1 := ⟨valN (L s) - 1, by omega⟩
      have CA : Hid (∀ W, Calls Tryz.prog 43 #[.string s] W fun e w' => e = .returned (.tuple #[.int .i64 ((k : Int) + 1), .nilIface]) ∧ Below W.heap.size W w') := Lib.hid fun W => (Tryz.strconv_Atoi s ((k : Int) + 1) (by rw [L_size] at d4; omega) (by
        have := atoi_digs d1 d2
        rw [hk] at this
        rw [show s.data.toList = L s from rfl, this]
        rfl) W).mono fun e w' ⟨h1, t, h2⟩ => ⟨h1, by rw [h2]; exact below_bytesWorld W _ t⟩
      have hkb := Lib.atoi_bound (atoi_digs d1 d2) (by omega)
      rw [hk] at hkb
      have hkb2 : k < 1000000000000000000 := by omega
      have HKK := Lib.hid hk
      rw [hk] at HP
      clear d1 d2 d3 d4 hv1 hk hkb
      by_cases hle : k + 1 ≤ N
      · have HP2 : Hid (paramL l (xs.map L) st (L s) = ((xs.map L).getD k [], true)) := Lib.hid (by rw [HP.out, if_pos rfl, if_pos (by rw [HNL.out]; exact hle)]; rfl)
        obtain ⟨x, hx⟩ : ∃ x, xs[k]? = some x := ⟨_, List.getElem?_eq_getElem (by rw [← HN.out]; omega)⟩
        have HP3 : Hid (paramL l (xs.map L) st (L s) = (L x, true)) := Lib.hid (by rw [HP2.out, List.getD_eq_getElem?_getD, List.getElem?_map, hx]; rfl)
        rw [HP3.out]
        have HX := Lib.hid hx
        clear HP HP2 HP3 hx
        go_enter Tryz.func11, Tryz.ntmps11
        go_wp2_with fail
        refine CN.out.mono ?_
        rintro e w1 ⟨rfl, hb1⟩
        have HB1 := Lib.hid hb1
        clear hb1
        go_wp2_with fail
        refine (CA.out _).mono ?_
        rintro e w2 ⟨rfl, hb2⟩
        have HB2 : Hid (Below w.heap.size w w2) := Lib.hid (HB1.out.trans (hb2.mono HB1.out.size))
        have r2 := (HB2.out.cell (p := ⟨g, 2, none⟩) hlg).trans y2
        obtain ⟨be, oe, re, _, ce⟩ := (HE.out.below HB2.out).1.open 22 9 Tryz.underlying22 (by kernel_rfl)
        rw [← HN.out] at re
        have j1 := fun w' => re k c w' (by omega)
        have d1 : w2.cell? ⟨be, oe + k, none⟩ = some (.string x) := by rw [ce k (by rw [← HN.out]; omega), List.getElem?_map, HX.out]; rfl
        clear hb2 re ce
        go_wp2_with fail
        go_ret2
        exact ⟨rfl, HB2.out⟩
      · have HP2 : Hid (paramL l (xs.map L) st (L s) = ([], false)) := Lib.hid (by rw [HP.out, if_pos rfl, if_neg (by rw [HNL.out]; exact hle)])
        rw [HP2.out]
        have hle' : N < k + 1 := by omega
        clear HP HP2 hle
        go_enter Tryz.func11, Tryz.ntmps11
        go_wp2_with fail
        refine CN.out.mono ?_
        rintro e w1 ⟨rfl, hb1⟩
        have HB1 := Lib.hid hb1
        clear hb1
        go_wp2_with fail
        refine (CA.out _).mono ?_
        rintro e w2 ⟨rfl, hb2⟩
        have HB2 : Hid (Below w.heap.size w w2) := Lib.hid (HB1.out.trans (hb2.mono HB1.out.size))
        have r2 := (HB2.out.cell (p := ⟨g, 2, none⟩) hlg).trans y2
        clear hb2
        go_wp2_with fail
        go_ret2
        exact ⟨rfl, HB2.out⟩
end
end Go.Proofs.YthfnkgofkdahfaaGreatDoor
