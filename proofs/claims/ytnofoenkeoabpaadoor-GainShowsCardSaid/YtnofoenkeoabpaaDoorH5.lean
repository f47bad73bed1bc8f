/-
  fixedWidthFloat of an eighth: the walk.
-/
import Derived.Test.YtnofoenkeoabpaaDoorH4
import Derived.Lib.LaidTab
namespace Go.Proofs.YtnofoenkeoabpaaDoor
open Go.RowKit

def Tab (w : World) : Prop := Lib.TabIs Tryd.prog w "internal/strconv.uint64pow10" .u64 Lib.pow10Tab ∧ 2 < w.heap.size
theorem Tab.below {W W' : World} {B : Nat} (h : Tab W) (hb : Below B W W') (hB : 2 < B) : Tab W' := by
  refine ⟨?_, Nat.lt_of_lt_of_le h.2 hb.size⟩
  have h1 := h.1
  unfold Lib.TabIs World.var? at *
  have hg : Tryd.prog.globalNamed "internal/strconv.uint64pow10" = some 2 := by kernel_rfl
  rw [hg] at h1 ⊢
  simp only [Option.bind_some] at h1 ⊢
  rw [hb.block _ hB]
  exact h1

/-- The estimate of the digits, in the walk's numbers. -/
theorem est (k : Nat) (hk : k ≤ 30) (w : World) : ∃ r : Int, (∀ E : Int, E = (k : Int) - 3 → Calls Tryd.prog 40 #[.int .i64 E] w fun e w' => e = .returned (.int .i64 r) ∧ w' = w) ∧ (digD k : Int) - 1 - r = expP k := by
  by_cases h : k < 3
  · refine ⟨-1, fun E hE => l10neg_any E (by omega) w, ?_⟩
    rw [digD, expP, if_pos h, if_pos h]
    omega
  · refine ⟨Lib.l10 (k - 3), fun E hE => ?_, ?_⟩
    · obtain rfl : E = ((k - 3 : Nat) : Int) := by omega
      exact Tryd.internal_strconv_log10Pow2 (k - 3) (by omega) w
    · rw [digD, expP, if_neg h, if_neg h]
      have : Lib.l10 (k - 3) ≤ Lib.l10 (k - 2) := Nat.div_le_div_right (Nat.mul_le_mul_right _ (by omega))
      omega

set_option maxHeartbeats 1600000 in
theorem fwf3 (x U V s D T N d : Nat) (E r : Int) (w : World) (hP : PTab w) (hx : x < 18446744073709551616) (hs : s < 64) (hV : V < 18446744073709551616) (eV : V = U * 2 ^ s) (hm : x * 18014398509481984000 = V * 18446744073709551616)
    (hE : (s : Int) = -(E + 12)) (h1 : -100 ≤ E) (h2 : E ≤ 0) (CE : Calls Tryd.prog 40 #[.int .i64 (E + 63)] w fun e w' => e = .returned (.int .i64 r) ∧ w' = w)
    (hr : (D : Int) - 1 - r = 3) (hD : 4 ≤ D ∧ D ≤ 12) (hcell : w.cell? ⟨2, D, none⟩ = some (.int .u64 (T : Int))) (hg2 : 2 < w.heap.size) (CU : ∀ w, Calls Tryd.prog 59 #[.int .u64 (T : Int)] w fun e w' => e = .returned (.int .u64 (N : Int)) ∧ w' = w)
    (hN : U < N) (hU : U = 4 * d) (hd : d ≤ 1000000000000) :
    Calls Tryd.prog 41 #[.int .u64 (x : Int), .int .i64 E, .int .i64 (D : Int), .int .i64 3, .int .u8 102] w fun r w' => r = .returned (.tuple #[.int .u64 (d : Int), .int .i64 (-3)]) ∧ Below w.heap.size w w' := by
  have hcmp : ¬ (N ≤ U) := by omega
  have H1 := Lib.hid CE
  have H2 := fun w => Lib.hid (CU w)
  have H3 := fun w b t h => Lib.hid (uscale_any x 18014398509481984000 U V s b t w hx (by decide) hs hV eV hm h)
  have H4 := fun w => Lib.hid (round_any d hd w)
  have H5 := fun b t x0 x1 x2 w h hb hp => Lib.hid (prescale3_any b t x0 x1 x2 E s w h hb hp hE h1 h2)
  rw [← hU] at H4
  have HP := Lib.hid hP
  clear CE CU hx hs hV eV hm hE hN hU hd hP
  go_enter Tryd.func41, Tryd.ntmps41
  go_wp2_with fail
  refine H1.out.mono ?_
  rintro e w1 ⟨rfl, rfl⟩
  go_wp2_with fail
  refine (l2p3_any _).mono ?_
  rintro e w2 ⟨rfl, rfl⟩
  go_wp2_with fail
  refine (H5 _ _ _ _ _ _ (Blk.new _ _ _) HP.out.2 (HP.out.below ((Below.refl w1.heap.size w1).alloc (Nat.le_refl _) _) HP.out.2)).out.mono ?_
  rintro e w3 ⟨rfl, hB3, hb3⟩
  have HB3 : Hid (Below w1.heap.size w1 w3) := Lib.hid (((Below.refl w1.heap.size w1).alloc (Nat.le_refl _) _).trans hb3)
  have HK3 := Lib.hid hB3
  have hcell3 := (HB3.out.cell (p := ⟨2, D, none⟩) hg2).trans hcell
  clear hb3 hB3 hcell
  go_wp2_with fail
  refine (H3 _ _ _ HK3.out).out.mono ?_
  rintro e w4 ⟨rfl, hb4⟩
  have HB4 : Hid (Below w1.heap.size w1 w4) := Lib.hid (HB3.out.trans (hb4.mono HB3.out.size))
  have hcell4 := (HB4.out.cell (p := ⟨2, D, none⟩) hg2).trans (((HB3.out.cell (p := ⟨2, D, none⟩) hg2).symm).trans hcell3)
  clear hb4 hcell3
  go_wp2_with fail
  refine (H2 _).out.mono ?_
  rintro e w5 ⟨rfl, rfl⟩
  go_wp2_with fail
  refine wp_loop_rounds 1 ?_
  rw [rounds_succ]
  go_wp2_with fail
  refine (H4 _).out.mono ?_
  rintro e w6 ⟨rfl, rfl⟩
  go_wp2_with fail
  go_ret2
  exact ⟨rfl, HB4.out⟩
set_option maxHeartbeats 1600000 in
theorem fwf4 (x U V s D T N d : Nat) (E r : Int) (w : World) (hP : PTab w) (hx : x < 18446744073709551616) (hs : s < 64) (hV : V < 18446744073709551616) (eV : V = U * 2 ^ s) (hm : x * 11258999068426240000 = V * 18446744073709551616)
    (hE : (s : Int) = -(E + 16)) (h1 : -100 ≤ E) (h2 : E ≤ 0) (CE : Calls Tryd.prog 40 #[.int .i64 (E + 63)] w fun e w' => e = .returned (.int .i64 r) ∧ w' = w)
    (hr : (D : Int) - 1 - r = 4) (hD : 4 ≤ D ∧ D ≤ 12) (hcell : w.cell? ⟨2, D, none⟩ = some (.int .u64 (T : Int))) (hg2 : 2 < w.heap.size) (CU : ∀ w, Calls Tryd.prog 59 #[.int .u64 (T : Int)] w fun e w' => e = .returned (.int .u64 (N : Int)) ∧ w' = w)
    (v : Nat) (hv : U = 10 * v) (hU : v = 4 * d) (hd : d ≤ 250000000000) :
    Calls Tryd.prog 41 #[.int .u64 (x : Int), .int .i64 E, .int .i64 (D : Int), .int .i64 3, .int .u8 102] w fun r w' => r = .returned (.tuple #[.int .u64 (d : Int), .int .i64 (-3)]) ∧ Below w.heap.size w w' := by
  have H1 := Lib.hid CE
  have H2 := fun w => Lib.hid (CU w)
  have H3 := fun w b t h => Lib.hid (uscale_any x 11258999068426240000 U V s b t w hx (by decide) hs hV eV hm h)
  have H4 := fun w => Lib.hid (round_any d (by omega) w)
  have H6 := fun w => Lib.hid (div_any v (by omega) (by omega) w)
  have H5 := fun b t x0 x1 x2 w h hb hp => Lib.hid (prescale4_any b t x0 x1 x2 E s w h hb hp hE h1 h2)
  rw [← hU] at H4
  rw [← hv] at H6
  have HP := Lib.hid hP
  clear CE CU hx hs hV eV hm hE hv hU hd hP
  go_enter Tryd.func41, Tryd.ntmps41
  go_wp2_with fail
  refine H1.out.mono ?_
  rintro e w1 ⟨rfl, rfl⟩
  go_wp2_with fail
  refine (l2p4_any _).mono ?_
  rintro e w2 ⟨rfl, rfl⟩
  go_wp2_with fail
  refine (H5 _ _ _ _ _ _ (Blk.new _ _ _) HP.out.2 (HP.out.below ((Below.refl w1.heap.size w1).alloc (Nat.le_refl _) _) HP.out.2)).out.mono ?_
  rintro e w3 ⟨rfl, hB3, hb3⟩
  have HB3 : Hid (Below w1.heap.size w1 w3) := Lib.hid (((Below.refl w1.heap.size w1).alloc (Nat.le_refl _) _).trans hb3)
  have HK3 := Lib.hid hB3
  have hcell3 := (HB3.out.cell (p := ⟨2, D, none⟩) hg2).trans hcell
  clear hb3 hB3 hcell
  go_wp2_with fail
  refine (H3 _ _ _ HK3.out).out.mono ?_
  rintro e w4 ⟨rfl, hb4⟩
  have HB4 : Hid (Below w1.heap.size w1 w4) := Lib.hid (HB3.out.trans (hb4.mono HB3.out.size))
  have hcell4 := (HB4.out.cell (p := ⟨2, D, none⟩) hg2).trans (((HB3.out.cell (p := ⟨2, D, none⟩) hg2).symm).trans hcell3)
  clear hb4 hcell3
  go_wp2_with fail
  refine (H2 _).out.mono ?_
  rintro e w5 ⟨rfl, rfl⟩
  by_cases hcmp : N ≤ U
  · go_wp2_with fail
    refine (H6 _).out.mono ?_
    rintro e w6 ⟨rfl, hb6⟩
    have HB6 : Hid (Below w1.heap.size w1 w6) := Lib.hid (HB4.out.trans (hb6.mono HB4.out.size))
    clear hb6
    go_wp2_with fail
    refine wp_loop_rounds 1 ?_
    rw [rounds_succ]
    go_wp2_with fail
    refine (H4 _).out.mono ?_
    rintro e w7 ⟨rfl, rfl⟩
    go_wp2_with fail
    go_ret2
    exact ⟨rfl, HB6.out⟩
  · go_wp2_with fail
    refine wp_loop_rounds 2 ?_
    rw [rounds_succ]
    go_wp2_with fail
    refine (H6 _).out.mono ?_
    rintro e w6 ⟨rfl, hb6⟩
    have HB6 : Hid (Below w1.heap.size w1 w6) := Lib.hid (HB4.out.trans (hb6.mono HB4.out.size))
    clear hb6
    go_wp2_with fail
    rw [rounds_succ]
    go_wp2_with fail
    refine (H4 _).out.mono ?_
    rintro e w7 ⟨rfl, rfl⟩
    go_wp2_with fail
    go_ret2
    exact ⟨rfl, HB6.out⟩

theorem ar_lim {n P T : Nat} (h : n < P) (h2 : 125 * P ≤ T) : n * 500 < 4 * T - 2 := by omega
theorem ar_ten (n : Nat) : n * 5000 = 10 * (n * 500) := by omega
theorem ar_four (n : Nat) : n * 500 = 4 * (125 * n) := by omega
theorem ar_max {n : Nat} (h : n ≤ 1073741824) : 125 * n ≤ 250000000000 ∧ 125 * n ≤ 1000000000000 := by omega
theorem fwf_any (n : Nat) (h0 : 0 < n) (h1 : n ≤ 1073741824) (E : Int) (hE : E = (n.log2 : Int) - 66) (w : World) (hT : Tab w) (hP : PTab w) :
    Calls Tryd.prog 41 #[.int .u64 (topN n : Int), .int .i64 E, .int .i64 (digD n.log2 : Int), .int .i64 3, .int .u8 102] w fun r w' => r = .returned (.tuple #[.int .u64 ((125 * n : Nat) : Int), .int .i64 (-3)]) ∧ Below w.heap.size w w' := by
  have hk := log_30 h0 h1
  obtain ⟨d4, d12, hd⟩ := scale_tab ⟨n.log2, by omega⟩
  simp only at d4 d12 hd
  obtain ⟨r, C0, hr⟩ := est n.log2 hk w
  obtain ⟨tb1, tb2⟩ := topN_bounds h0 h1
  have hlt := (log_bounds h0).2
  have CE := C0 (E + 63) (by omega)
  have hcell := hT.1.cell (g := 2) (by kernel_rfl) (digD n.log2) (by rw [Lib.pow10Tab_length]; omega)
  rw [Lib.pow10Tab_at _ (by omega)] at hcell
  have T1 : 1 ≤ 10 ^ digD n.log2 := Nat.pos_of_ne_zero (by simp)
  have T2 : 10 ^ digD n.log2 ≤ 1000000000000 := Nat.pow_le_pow_right (n := 10) (by omega) d12
  have vlt : ∀ V hi : Nat, hi < 18446744073709551616 → topN n * hi = V * 18446744073709551616 → V < 18446744073709551616 := fun V hi hh hm => by
    have h := Nat.mul_lt_mul_of_lt_of_le tb2 (Nat.le_of_lt hh) (by omega)
    rw [hm] at h
    exact Nat.lt_of_mul_lt_mul_right h
  rcases hd with ⟨e3, hlim⟩ | e4
  · rw [e3] at hr
    have hm := scale_mul (T := 500) (lp := 9) h0 h1 (by omega)
    rw [show 2 * 500 * 2 ^ (63 - 9) = 18014398509481984000 from rfl] at hm
    exact fwf3 (topN n) (n * 500) _ (63 - n.log2 - 9) (digD n.log2) _ _ (125 * n) E r w hP tb2 (by omega) (vlt _ _ (by decide) hm) rfl hm (by omega) (by omega) (by omega) CE hr ⟨d4, d12⟩ hcell hT.2 (fun w => unmin_any _ T1 T2 w) (ar_lim hlt hlim) (ar_four n) (ar_max h1).2
  · rw [e4] at hr
    have hm := scale_mul (T := 5000) (lp := 13) h0 h1 (by omega)
    rw [show 2 * 5000 * 2 ^ (63 - 13) = 11258999068426240000 from rfl] at hm
    exact fwf4 (topN n) (n * 5000) _ (63 - n.log2 - 13) (digD n.log2) _ _ (125 * n) E r w hP tb2 (by omega) (vlt _ _ (by decide) hm) rfl hm (by omega) (by omega) (by omega) CE hr ⟨d4, d12⟩ hcell hT.2 (fun w => unmin_any _ T1 T2 w) (n * 500) (ar_ten n) (ar_four n) (ar_max h1).1
end Go.Proofs.YtnofoenkeoabpaaDoor
