/-
  GainShows: the walk.
-/
import Derived.Test.YtnofoenkeoabpaaDoorH15
namespace Go.Proofs.YtnofoenkeoabpaaDoor
open Go.RowKit

def nzL : List UInt8 := [45, 48, 46, 48, 48, 48]
theorem ub (x : Int) (h1 : 0 ≤ x) (h2 : x ≤ 134217728000) : IntKind.i64.wrap x = x := IntWalk.i64_in _ ⟨by omega, by omega⟩
set_option maxHeartbeats 6400000 in
set_option maxRecDepth 100000 in
theorem shows_any (n : Int) (x : Nat) (w : World) (hx : x < 18446744073709551616) (hG : Gl w.heap.size w) :
    Calls Tryd.prog 3 #[.int .i64 n, .float .f64 x] w fun e w' => e = .returned (.bool true) ∧ Below w.heap.size w w' := by
  have CA := Lib.hid (anchor_any w)
  have CC := Lib.hid (fun W => Class_any x W)
  have GL : Hid (∀ W, Below w.heap.size w W → Gl W.heap.size W) := Lib.hid fun W hb => (hG.below hb).grow hb.size
  obtain ⟨g6, g5, g0, g2⟩ := cls_word hx
  obtain ⟨c, hc⟩ : ∃ c, clsN x = c := ⟨_, rfl⟩
  rw [hc] at g6 g5 g0 g2 CC
  have K6 := Lib.hid g6
  have K5 := Lib.hid g5
  have K0 := Lib.hid g0
  have K2 : Hid (c = 2 → ShowC x nzL) := Lib.hid g2
  clear g6 g5 g0 g2 hc hx hG
  go_enter Tryd.func3, Tryd.ntmps3
  go_wp2_with fail
  refine CA.out.mono ?_
  rintro e w1 ⟨rfl, hb1⟩
  have HB := Lib.hid hb1
  clear hb1
  go_wp2_with fail
  refine (CC.out _).mono ?_
  rintro e w2 ⟨rfl, rfl⟩
  by_cases h6 : c = 6
  · subst h6
    have CS := Lib.hid (K6.out rfl w2 (GL.out w2 HB.out))
    have ht : ((S noneL).toList == noneL) = true := by rw [toList_L, L_S]; rfl
    unfold noneL at CS ht
    go_wp2_with fail
    refine CS.out.mono ?_
    rintro e w3 ⟨rfl, hb3⟩
    have HB3 := Lib.hid (HB.out.trans (hb3.mono HB.out.size))
    clear hb3 CS HB
    have HB := HB3
    clear HB3
    by_cases hlo : n < 0
    · go_wp2_with fail
      go_ret
      exact ⟨rfl, HB.out⟩
    · by_cases hhi : 1073741824 < n
      · go_wp2_with fail
        go_ret
        exact ⟨rfl, HB.out⟩
      · obtain ⟨m, hm⟩ : ∃ m : Nat, n = m := ⟨n.toNat, by omega⟩
        subst hm
        obtain ⟨y, hq, hy, hs1, hs2⟩ := eighth m (by omega)
        have q0 := fun w => run_quo64 22 (FI m) (FI 8) y w hq
        rw [show FI 8 = 4620693217682128896 by kernel_rfl] at q0
        unfold FI at q0
        have hun := unary_negf hy
        have hw := ub (125 * (m : Int)) (by omega) (by omega)
        have CS1 : Hid (∀ W, Below w.heap.size w W → Calls Tryd.prog 6 #[.float .f64 y] W fun r w' => r = .returned (.string (S (wholeL (125 * m) false))) ∧ Below W.heap.size W w') := Lib.hid fun W hb => hs1 W (GL.out W hb)
        have CS2 : Hid (∀ W, Below w.heap.size w W → Calls Tryd.prog 6 #[.float .f64 (negN y)] W fun r w' => r = .returned (.string (S (wholeL (125 * m) true))) ∧ Below W.heap.size W w') := Lib.hid fun W hb => hs2 W (GL.out W hb)
        have CW : Hid (∀ W neg, Calls Tryd.prog 7 #[.int .i64 (125 * (m : Int)), .bool neg] W fun r w' => r = .returned (.string (S (wholeL (125 * m) neg))) ∧ Below W.heap.size W w') := Lib.hid fun W neg => by
          have := whole_any (125 * m) neg (by omega) W
          rw [show ((125 * m : Nat) : Int) = 125 * (m : Int) by omega] at this
          exact this
        generalize negN y = z at hun CS2
        clear hq hy hs1 hs2
        go_wp2_with fail
        refine (CS1.out _ HB.out).mono ?_
        rintro e v1 ⟨rfl, hb⟩
        have HV1 := Lib.hid (HB.out.trans (hb.mono HB.out.size))
        clear hb
        go_wp2_with fail
        refine (CW.out _ false).mono ?_
        rintro e v2 ⟨rfl, hb⟩
        have HV2 := Lib.hid (HV1.out.trans (hb.mono HV1.out.size))
        clear hb
        go_wp2_with fail
        refine (CS2.out _ HV2.out).mono ?_
        rintro e v3 ⟨rfl, hb⟩
        have HV3 := Lib.hid (HV2.out.trans (hb.mono HV2.out.size))
        clear hb
        go_wp2_with fail
        refine (CW.out _ true).mono ?_
        rintro e v4 ⟨rfl, hb⟩
        have HV4 := Lib.hid (HV3.out.trans (hb.mono HV3.out.size))
        clear hb
        go_wp2_with fail
        go_ret
        exact ⟨rfl, HV4.out⟩
  by_cases h5 : c = 5
  · subst h5
    have CS := Lib.hid (K5.out rfl w2 (GL.out w2 HB.out))
    have ht : ((S allL).toList == allL) = true := by rw [toList_L, L_S]; rfl
    unfold allL at CS ht
    go_wp2_with fail
    refine CS.out.mono ?_
    rintro e w3 ⟨rfl, hb3⟩
    have HB3 := Lib.hid (HB.out.trans (hb3.mono HB.out.size))
    clear hb3 CS HB
    have HB := HB3
    clear HB3
    by_cases hlo : n < 0
    · go_wp2_with fail
      go_ret
      exact ⟨rfl, HB.out⟩
    · by_cases hhi : 1073741824 < n
      · go_wp2_with fail
        go_ret
        exact ⟨rfl, HB.out⟩
      · obtain ⟨m, hm⟩ : ∃ m : Nat, n = m := ⟨n.toNat, by omega⟩
        subst hm
        obtain ⟨y, hq, hy, hs1, hs2⟩ := eighth m (by omega)
        have q0 := fun w => run_quo64 22 (FI m) (FI 8) y w hq
        rw [show FI 8 = 4620693217682128896 by kernel_rfl] at q0
        unfold FI at q0
        have hun := unary_negf hy
        have hw := ub (125 * (m : Int)) (by omega) (by omega)
        have CS1 : Hid (∀ W, Below w.heap.size w W → Calls Tryd.prog 6 #[.float .f64 y] W fun r w' => r = .returned (.string (S (wholeL (125 * m) false))) ∧ Below W.heap.size W w') := Lib.hid fun W hb => hs1 W (GL.out W hb)
        have CS2 : Hid (∀ W, Below w.heap.size w W → Calls Tryd.prog 6 #[.float .f64 (negN y)] W fun r w' => r = .returned (.string (S (wholeL (125 * m) true))) ∧ Below W.heap.size W w') := Lib.hid fun W hb => hs2 W (GL.out W hb)
        have CW : Hid (∀ W neg, Calls Tryd.prog 7 #[.int .i64 (125 * (m : Int)), .bool neg] W fun r w' => r = .returned (.string (S (wholeL (125 * m) neg))) ∧ Below W.heap.size W w') := Lib.hid fun W neg => by
          have := whole_any (125 * m) neg (by omega) W
          rw [show ((125 * m : Nat) : Int) = 125 * (m : Int) by omega] at this
          exact this
        generalize negN y = z at hun CS2
        clear hq hy hs1 hs2
        go_wp2_with fail
        refine (CS1.out _ HB.out).mono ?_
        rintro e v1 ⟨rfl, hb⟩
        have HV1 := Lib.hid (HB.out.trans (hb.mono HB.out.size))
        clear hb
        go_wp2_with fail
        refine (CW.out _ false).mono ?_
        rintro e v2 ⟨rfl, hb⟩
        have HV2 := Lib.hid (HV1.out.trans (hb.mono HV1.out.size))
        clear hb
        go_wp2_with fail
        refine (CS2.out _ HV2.out).mono ?_
        rintro e v3 ⟨rfl, hb⟩
        have HV3 := Lib.hid (HV2.out.trans (hb.mono HV2.out.size))
        clear hb
        go_wp2_with fail
        refine (CW.out _ true).mono ?_
        rintro e v4 ⟨rfl, hb⟩
        have HV4 := Lib.hid (HV3.out.trans (hb.mono HV3.out.size))
        clear hb
        go_wp2_with fail
        go_ret
        exact ⟨rfl, HV4.out⟩
  by_cases h0 : c = 0
  · subst h0
    have CS := Lib.hid (K0.out rfl w2 (GL.out w2 HB.out))
    have ht : ((S nallL).toList == nallL) = true := by rw [toList_L, L_S]; rfl
    unfold nallL at CS ht
    go_wp2_with fail
    refine CS.out.mono ?_
    rintro e w3 ⟨rfl, hb3⟩
    have HB3 := Lib.hid (HB.out.trans (hb3.mono HB.out.size))
    clear hb3 CS HB
    have HB := HB3
    clear HB3
    by_cases hlo : n < 0
    · go_wp2_with fail
      go_ret
      exact ⟨rfl, HB.out⟩
    · by_cases hhi : 1073741824 < n
      · go_wp2_with fail
        go_ret
        exact ⟨rfl, HB.out⟩
      · obtain ⟨m, hm⟩ : ∃ m : Nat, n = m := ⟨n.toNat, by omega⟩
        subst hm
        obtain ⟨y, hq, hy, hs1, hs2⟩ := eighth m (by omega)
        have q0 := fun w => run_quo64 22 (FI m) (FI 8) y w hq
        rw [show FI 8 = 4620693217682128896 by kernel_rfl] at q0
        unfold FI at q0
        have hun := unary_negf hy
        have hw := ub (125 * (m : Int)) (by omega) (by omega)
        have CS1 : Hid (∀ W, Below w.heap.size w W → Calls Tryd.prog 6 #[.float .f64 y] W fun r w' => r = .returned (.string (S (wholeL (125 * m) false))) ∧ Below W.heap.size W w') := Lib.hid fun W hb => hs1 W (GL.out W hb)
        have CS2 : Hid (∀ W, Below w.heap.size w W → Calls Tryd.prog 6 #[.float .f64 (negN y)] W fun r w' => r = .returned (.string (S (wholeL (125 * m) true))) ∧ Below W.heap.size W w') := Lib.hid fun W hb => hs2 W (GL.out W hb)
        have CW : Hid (∀ W neg, Calls Tryd.prog 7 #[.int .i64 (125 * (m : Int)), .bool neg] W fun r w' => r = .returned (.string (S (wholeL (125 * m) neg))) ∧ Below W.heap.size W w') := Lib.hid fun W neg => by
          have := whole_any (125 * m) neg (by omega) W
          rw [show ((125 * m : Nat) : Int) = 125 * (m : Int) by omega] at this
          exact this
        generalize negN y = z at hun CS2
        clear hq hy hs1 hs2
        go_wp2_with fail
        refine (CS1.out _ HB.out).mono ?_
        rintro e v1 ⟨rfl, hb⟩
        have HV1 := Lib.hid (HB.out.trans (hb.mono HB.out.size))
        clear hb
        go_wp2_with fail
        refine (CW.out _ false).mono ?_
        rintro e v2 ⟨rfl, hb⟩
        have HV2 := Lib.hid (HV1.out.trans (hb.mono HV1.out.size))
        clear hb
        go_wp2_with fail
        refine (CS2.out _ HV2.out).mono ?_
        rintro e v3 ⟨rfl, hb⟩
        have HV3 := Lib.hid (HV2.out.trans (hb.mono HV2.out.size))
        clear hb
        go_wp2_with fail
        refine (CW.out _ true).mono ?_
        rintro e v4 ⟨rfl, hb⟩
        have HV4 := Lib.hid (HV3.out.trans (hb.mono HV3.out.size))
        clear hb
        go_wp2_with fail
        go_ret
        exact ⟨rfl, HV4.out⟩
  by_cases h2 : c = 2
  · subst h2
    have CS := Lib.hid (K2.out rfl w2 (GL.out w2 HB.out))
    have ht : ((S nzL).toList == nzL) = true := by rw [toList_L, L_S]; rfl
    unfold nzL at CS ht
    go_wp2_with fail
    refine CS.out.mono ?_
    rintro e w3 ⟨rfl, hb3⟩
    have HB3 := Lib.hid (HB.out.trans (hb3.mono HB.out.size))
    clear hb3 CS HB
    have HB := HB3
    clear HB3
    by_cases hlo : n < 0
    · go_wp2_with fail
      go_ret
      exact ⟨rfl, HB.out⟩
    · by_cases hhi : 1073741824 < n
      · go_wp2_with fail
        go_ret
        exact ⟨rfl, HB.out⟩
      · obtain ⟨m, hm⟩ : ∃ m : Nat, n = m := ⟨n.toNat, by omega⟩
        subst hm
        obtain ⟨y, hq, hy, hs1, hs2⟩ := eighth m (by omega)
        have q0 := fun w => run_quo64 22 (FI m) (FI 8) y w hq
        rw [show FI 8 = 4620693217682128896 by kernel_rfl] at q0
        unfold FI at q0
        have hun := unary_negf hy
        have hw := ub (125 * (m : Int)) (by omega) (by omega)
        have CS1 : Hid (∀ W, Below w.heap.size w W → Calls Tryd.prog 6 #[.float .f64 y] W fun r w' => r = .returned (.string (S (wholeL (125 * m) false))) ∧ Below W.heap.size W w') := Lib.hid fun W hb => hs1 W (GL.out W hb)
        have CS2 : Hid (∀ W, Below w.heap.size w W → Calls Tryd.prog 6 #[.float .f64 (negN y)] W fun r w' => r = .returned (.string (S (wholeL (125 * m) true))) ∧ Below W.heap.size W w') := Lib.hid fun W hb => hs2 W (GL.out W hb)
        have CW : Hid (∀ W neg, Calls Tryd.prog 7 #[.int .i64 (125 * (m : Int)), .bool neg] W fun r w' => r = .returned (.string (S (wholeL (125 * m) neg))) ∧ Below W.heap.size W w') := Lib.hid fun W neg => by
          have := whole_any (125 * m) neg (by omega) W
          rw [show ((125 * m : Nat) : Int) = 125 * (m : Int) by omega] at this
          exact this
        generalize negN y = z at hun CS2
        clear hq hy hs1 hs2
        go_wp2_with fail
        refine (CS1.out _ HB.out).mono ?_
        rintro e v1 ⟨rfl, hb⟩
        have HV1 := Lib.hid (HB.out.trans (hb.mono HB.out.size))
        clear hb
        go_wp2_with fail
        refine (CW.out _ false).mono ?_
        rintro e v2 ⟨rfl, hb⟩
        have HV2 := Lib.hid (HV1.out.trans (hb.mono HV1.out.size))
        clear hb
        go_wp2_with fail
        refine (CS2.out _ HV2.out).mono ?_
        rintro e v3 ⟨rfl, hb⟩
        have HV3 := Lib.hid (HV2.out.trans (hb.mono HV2.out.size))
        clear hb
        go_wp2_with fail
        refine (CW.out _ true).mono ?_
        rintro e v4 ⟨rfl, hb⟩
        have HV4 := Lib.hid (HV3.out.trans (hb.mono HV3.out.size))
        clear hb
        go_wp2_with fail
        go_ret
        exact ⟨rfl, HV4.out⟩
  · skip
    by_cases hlo : n < 0
    · go_wp2_with fail
      go_ret
      exact ⟨rfl, HB.out⟩
    · by_cases hhi : 1073741824 < n
      · go_wp2_with fail
        go_ret
        exact ⟨rfl, HB.out⟩
      · obtain ⟨m, hm⟩ : ∃ m : Nat, n = m := ⟨n.toNat, by omega⟩
        subst hm
        obtain ⟨y, hq, hy, hs1, hs2⟩ := eighth m (by omega)
        have q0 := fun w => run_quo64 22 (FI m) (FI 8) y w hq
        rw [show FI 8 = 4620693217682128896 by kernel_rfl] at q0
        unfold FI at q0
        have hun := unary_negf hy
        have hw := ub (125 * (m : Int)) (by omega) (by omega)
        have CS1 : Hid (∀ W, Below w.heap.size w W → Calls Tryd.prog 6 #[.float .f64 y] W fun r w' => r = .returned (.string (S (wholeL (125 * m) false))) ∧ Below W.heap.size W w') := Lib.hid fun W hb => hs1 W (GL.out W hb)
        have CS2 : Hid (∀ W, Below w.heap.size w W → Calls Tryd.prog 6 #[.float .f64 (negN y)] W fun r w' => r = .returned (.string (S (wholeL (125 * m) true))) ∧ Below W.heap.size W w') := Lib.hid fun W hb => hs2 W (GL.out W hb)
        have CW : Hid (∀ W neg, Calls Tryd.prog 7 #[.int .i64 (125 * (m : Int)), .bool neg] W fun r w' => r = .returned (.string (S (wholeL (125 * m) neg))) ∧ Below W.heap.size W w') := Lib.hid fun W neg => by
          have := whole_any (125 * m) neg (by omega) W
          rw [show ((125 * m : Nat) : Int) = 125 * (m : Int) by omega] at this
          exact this
        generalize negN y = z at hun CS2
        clear hq hy hs1 hs2
        go_wp2_with fail
        refine (CS1.out _ HB.out).mono ?_
        rintro e v1 ⟨rfl, hb⟩
        have HV1 := Lib.hid (HB.out.trans (hb.mono HB.out.size))
        clear hb
        go_wp2_with fail
        refine (CW.out _ false).mono ?_
        rintro e v2 ⟨rfl, hb⟩
        have HV2 := Lib.hid (HV1.out.trans (hb.mono HV1.out.size))
        clear hb
        go_wp2_with fail
        refine (CS2.out _ HV2.out).mono ?_
        rintro e v3 ⟨rfl, hb⟩
        have HV3 := Lib.hid (HV2.out.trans (hb.mono HV2.out.size))
        clear hb
        go_wp2_with fail
        refine (CW.out _ true).mono ?_
        rintro e v4 ⟨rfl, hb⟩
        have HV4 := Lib.hid (HV3.out.trans (hb.mono HV3.out.size))
        clear hb
        go_wp2_with fail
        go_ret
        exact ⟨rfl, HV4.out⟩
end Go.Proofs.YtnofoenkeoabpaaDoor
