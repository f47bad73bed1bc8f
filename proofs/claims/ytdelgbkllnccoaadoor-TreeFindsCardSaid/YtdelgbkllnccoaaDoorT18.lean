/-
  The document's word on a tree that is a part of another one: the walk.
-/
import Derived.Test.YtdelgbkllnccoaaDoorT17
namespace Go.Proofs.YtdelgbkllnccoaaDoor
open Go.RowKit

theorem p2_kind {a t : List It} {x y : It} (hx : C1 a t x) (hy : C1 a t y) (h : ¬ (x.k = 1 ∧ y.k = 1)) : P2 t x y := fun o o' h1 h2 => by
  obtain ⟨q, hq, hk, _⟩ := hx
  rw [h1] at hq; cases hq
  obtain ⟨q, hq, hk', _⟩ := hy
  rw [h2] at hq; cases hq
  unfold oneB
  rw [hk, hk']
  by_cases h3 : x.k = 1
  · rw [show (y.k == 1) = false by simpa using fun h4 => h ⟨h3, h4⟩]; simp
  · rw [show (x.k == 1) = false by simpa using h3]; simp
theorem p2_iff {t : List It} {x y o o' : It} (hx : findV t (L x.p) = some o) (hy : findV t (L y.p) = some o') (h1 : x.k = 1) (h2 : y.k = 1) (h3 : o.k = 1) (h4 : o'.k = 1) :
    P2 t x y ↔ ((fstS x).toList == (fstS y).toList) = ((fstS o).toList == (fstS o').toList) := by
  have e1 : oneB x y = ((fstS x).toList == (fstS y).toList) := by simp [oneB, h1, h2]
  have e2 : oneB o o' = ((fstS o).toList == (fstS o').toList) := by simp [oneB, h3, h4]
  rw [← e1, ← e2]
  refine ⟨fun h => h o o' hx hy, fun h q q' hq hq' => ?_⟩
  rw [hx] at hq; rw [hy] at hq'
  cases hq; cases hq'; exact h
def allTo (a t : List It) (k : Nat) : Prop := ∀ (i : Nat) (x : It), i < k → a[i]? = some x → p2To a t x a.length
theorem allTo_succ {a t : List It} {k : Nat} {x : It} (h : allTo a t k) (hx : a[k]? = some x) (hc : p2To a t x a.length) : allTo a t (k + 1) := fun i y hi hy => by
  by_cases h1 : i < k
  · exact h i y h1 hy
  · obtain rfl : i = k := by omega
    rw [hx] at hy; cases hy; exact hc

set_option maxHeartbeats 2000000 in
set_option maxRecDepth 100000 in
theorem rpart_any (a t : List It) (v u : Value) (w : World) (ha : Tr w w.heap.size v a) (ht0 : Tr w w.heap.size u t) (h30 : a.length ≤ 30) :
    Calls Tryd.prog 24 #[v, u] w fun e w' => ∃ r, e = .returned (.bool r) ∧ Says r (PartP a t) ∧ Below w.heap.size w w' := by
  obtain ⟨aa, ac, rfl, hm⟩ := tr_shape ha
  obtain ⟨ta, tc, rfl, hm2⟩ := tr_shape ht0
  obtain ⟨n, hn⟩ : ∃ n, n = a.length := ⟨_, rfl⟩
  obtain ⟨n2, hn2⟩ : ∃ n, n = t.length := ⟨_, rfl⟩
  rw [← hn] at hm h30
  rw [← hn2] at hm2
  have HA : Hid (∀ W, Below w.heap.size w W → Tr W W.heap.size (.slice aa a.length ac) a) := Lib.hid fun W hW => (ha.below hW).mono hW.size
  have HT : Hid (∀ W, Below w.heap.size w W → Tr W W.heap.size (.slice ta t.length tc) t) := Lib.hid fun W hW => (ht0.below hW).mono hW.size
  have HA0 := Lib.hid ha
  have HT0 := Lib.hid ht0
  have HN := Lib.hid hn
  have HN2 := Lib.hid hn2
  clear ha ht0
  rw [← hn, ← hn2]
  clear hn hn2
  have CF : Hid (∀ (W : World) (s : ByteArray), Below w.heap.size w W → Calls Tryd.prog 12 #[.slice ta n2 tc, .string s] W fun e w' => e = .returned (.int .i64 (findZ t (L s))) ∧ w' = W) := Lib.hid fun W s hW => by rw [HN2.out]; exact rfind_any t _ s W (HT.out W hW)
  have CKT : Hid (∀ (W : World) (j : Nat) (o : It), Below w.heap.size w W → t[j]? = some o → Calls Tryd.prog 14 #[.slice ta n2 tc, .int .i64 (j : Int)] W fun e w' => e = .returned (.string (contS t o)) ∧ w' = W) := Lib.hid fun W j o hW ho => by rw [HN2.out]; exact rcontent_any t _ j o W (HT.out W hW) ho
  have CKA : Hid (∀ (W : World) (j : Nat) (o : It), Below w.heap.size w W → a[j]? = some o → Calls Tryd.prog 14 #[.slice aa n ac, .int .i64 (j : Int)] W fun e w' => e = .returned (.string (contS a o)) ∧ w' = W) := Lib.hid fun W j o hW ho => by rw [HN.out]; exact rcontent_any a _ j o W (HA.out W hW) ho
  go_enter Tryd.func24, Tryd.ntmps24
  go_wp2_with fail
  go_loopw [5] (fun i wr => ∃ k : Nat, k ≤ n ∧ i = .int .i64 k ∧ c1To a t k ∧ Below w.heap.size w wr) (fun i _ => n - (intOf i).toNat)
  case atStart => exact ⟨0, Nat.zero_le _, rfl, fun i x hi => by omega, Below.refl _ _⟩
  case round =>
    obtain ⟨k, hk, rfl, hc1, hb⟩ := hrel
    obtain ⟨wo, rfl⟩ : ∃ wo : World, wo = wr := ⟨_, rfl⟩
    have hbs := hb.size
    by_cases hlt : k < n
    · obtain ⟨x, hx⟩ : ∃ x, a[k]? = some x := ⟨_, List.getElem?_eq_getElem (by rw [← HN.out]; exact hlt)⟩
      obtain ⟨b1, o1, i1, hb1, c1⟩ := it_at (HA.out _ hb) 26 36 Tryd.underlying26 (by kernel_rfl) hx (k : Int) rfl
      obtain ⟨c2, c3, c4, c5, c6⟩ := c1
      rw [← HN.out] at i1
      have CF1 : Hid (Calls Tryd.prog 12 #[.slice ta n2 tc, .string x.p] wo fun e w' => e = .returned (.int .i64 (findZ t (L x.p))) ∧ wo = w') := Lib.hid ((CF.out wo x.p hb).mono fun e w' h => ⟨h.1, h.2.symm⟩)
      have CKA1 := Lib.hid (fun n' => CKA.out (wo.drewN n') k x (below_drewN hb n') hx)
      have HB := Lib.hid hb
      have HC1 := Lib.hid hc1
      cases hf : findI t (L x.p) with
      | none =>
        have HFZ := Lib.hid (findZ_none hf)
        have HNO : Hid (¬ PartP a t) := Lib.hid (fun h => by
          obtain ⟨o, ho, _⟩ := h.1 k x hx
          rw [findV_no hf] at ho; cases ho)
        clear hx hb hc1 hf
        go_wp2_with fail
        refine CF1.out.mono ?_
        rintro e w1 ⟨rfl, rfl⟩
        rw [HFZ.out]
        go_wp2_with fail
        go_quiet (fail)
        go_wp2
        go_ret
        refine ⟨_, rfl, ?_, below_drewN HB.out nq⟩
        exact ⟨fun h => (by first | cases h | simp at h), fun h => absurd h HNO.out⟩
      | some jf =>
        obtain ⟨o, ho, _⟩ := findI_some hf
        have hfv := findI_at2 hf ho
        have HFZ := Lib.hid (findZ_some hf)
        obtain ⟨b2, o2, i2, hb2, g2⟩ := it_at (HT.out _ hb) 26 36 Tryd.underlying26 (by kernel_rfl) ho (jf : Int) rfl
        rw [← HN2.out] at i2
        have hjn : decide ((jf : Int) < 0) = false := by simp
        have h2 := g2.k
        have CKT1 := Lib.hid (fun n' => CKT.out (wo.drewN n') jf o (below_drewN hb n') ho)
        by_cases hkk : o.k = x.k
        · have t1 : (o.k != x.k) = false := by simp [hkk]
          obtain ⟨s1, hs1⟩ : ∃ s, s = contS t o := ⟨_, rfl⟩
          obtain ⟨s2, hs2⟩ : ∃ s, s = contS a x := ⟨_, rfl⟩
          rw [← hs1] at CKT1
          rw [← hs2] at CKA1
          by_cases hss : L s1 = L s2
          · have t2 := eq_L hss
            have HCS : Hid (c1To a t (k + 1)) := Lib.hid (c1To_succ hc1 hx ⟨o, hfv, hkk, by rw [← hs1, ← hs2]; exact L_inj hss⟩)
            clear hx hb hc1 hf hfv ho g2 hkk hss hs1 hs2
            go_wp2_with fail
            refine CF1.out.mono ?_
            rintro e w1 ⟨rfl, rfl⟩
            rw [HFZ.out]
            go_wp2_with fail
            go_quiet ((go_at_call 14; with_reducible first | exact Calls.quiet_of_same (CKT1.out _) | exact Calls.quiet_of_same (CKA1.out _)))
            go_wp2_with fail
            go_roundw
            case rel => exact ⟨k + 1, by omega, by go_num, HCS.out, below_drewN HB.out nq⟩
            case measure => simp [intOf]; omega
          · have t2 := ne_L hss
            have HNO : Hid (¬ PartP a t) := Lib.hid (fun h => by
              obtain ⟨q, hq, _, hq2⟩ := h.1 k x hx
              rw [hfv] at hq; cases hq
              rw [← hs1, ← hs2] at hq2
              exact hss (by rw [hq2]))
            clear hx hb hc1 hf hfv ho g2 hkk hss hs1 hs2
            go_wp2_with fail
            refine CF1.out.mono ?_
            rintro e w1 ⟨rfl, rfl⟩
            rw [HFZ.out]
            go_wp2_with fail
            go_quiet ((go_at_call 14; with_reducible first | exact Calls.quiet_of_same (CKT1.out _) | exact Calls.quiet_of_same (CKA1.out _)))
            go_wp2
            go_ret
            refine ⟨_, rfl, ?_, below_drewN HB.out nq⟩
            exact ⟨fun h => (by first | cases h | simp at h), fun h => absurd h HNO.out⟩
        · have t1 : (o.k != x.k) = true := by simpa using hkk
          have HNO : Hid (¬ PartP a t) := Lib.hid (fun h => by
            obtain ⟨q, hq, hq2, _⟩ := h.1 k x hx
            rw [hfv] at hq; cases hq
            exact hkk hq2)
          clear hx hb hc1 hf hfv ho g2 hkk
          go_wp2_with fail
          refine CF1.out.mono ?_
          rintro e w1 ⟨rfl, rfl⟩
          rw [HFZ.out]
          go_wp2_with fail
          go_quiet (fail)
          go_wp2
          go_ret
          refine ⟨_, rfl, ?_, below_drewN HB.out nq⟩
          exact ⟨fun h => (by first | cases h | simp at h), fun h => absurd h HNO.out⟩
    · obtain rfl : k = n := by omega
      have HC1 : Hid (c1To a t a.length) := Lib.hid (by rw [← HN.out]; exact hc1)
      have HB := Lib.hid hb
      clear hb hc1
      have CFR : Hid (∀ (W : World) (s : ByteArray), Below w.heap.size w W → ∀ d os, Calls Tryd.prog 12 #[.slice ta n2 tc, .string s] (Sort.grow (redrawn W d) os) fun e w'' => e = .returned (.int .i64 (findZ t (L s))) ∧ ∃ q : Regrown, w'' = Sort.grow (redrawn W q.d) q.os) := Lib.hid fun W s hW d os =>
        Calls.regrown_of ((CF.out _ s (hW.trans ((below_regrown W d os).mono hW.size))).mono fun e w' h => ⟨h.1, by rw [h.2]; exact Below.refl _ _⟩)
      have CN : Hid (∀ (W : World) (x : It) d os, Calls Tryd.prog 32 #[itV x] (Sort.grow (redrawn W d) os) fun e w'' => e = .returned (.string (fstS x)) ∧ ∃ q : Regrown, w'' = Sort.grow (redrawn W q.d) q.os) := Lib.hid fun W x d os => Calls.regrown_of (first_it x _)
      go_wp2_with fail
      go_loopw [7] (fun i wr => ∃ j : Nat, j ≤ k ∧ i = .int .i64 j ∧ allTo a t j ∧ Below w.heap.size w wr) (fun i _ => k - (intOf i).toNat)
      case atStart => exact ⟨0, Nat.zero_le _, rfl, fun i x hi => by omega, HB.out⟩
      case round =>
        obtain ⟨i, hik, rfl, hall, hb2⟩ := hrel
        obtain ⟨w2, rfl⟩ : ∃ w2 : World, w2 = wr := ⟨_, rfl⟩
        by_cases hit : i < k
        · obtain ⟨x, hx⟩ : ∃ x, a[i]? = some x := ⟨_, List.getElem?_eq_getElem (by rw [← HN.out]; omega)⟩
          have HALL := Lib.hid hall
          have HX := Lib.hid hx
          clear hall hx
          go_wp2_with fail
          go_loopw [8] (fun q wr => ∃ j : Nat, j ≤ k ∧ q = .int .i64 j ∧ p2To a t x j ∧ Below w.heap.size w wr) (fun q _ => k - (intOf q).toNat)
          case atStart => exact ⟨0, Nat.zero_le _, rfl, fun i x hi => by omega, hb2⟩
          case round =>
            obtain ⟨j, hjk, rfl, hp2, hb3⟩ := hrel
            obtain ⟨w3, rfl⟩ : ∃ w3 : World, w3 = wr := ⟨_, rfl⟩
            by_cases hjt : j < k
            · obtain ⟨y, hy⟩ : ∃ y, a[j]? = some y := ⟨_, List.getElem?_eq_getElem (by rw [← HN.out]; omega)⟩
              obtain ⟨b1, o1, i1, hb1, c1⟩ := it_at (HA.out _ hb3) 26 36 Tryd.underlying26 (by kernel_rfl) HX.out (i : Int) rfl
              obtain ⟨b2, o2, i2, hb2', c2⟩ := it_at (HA.out _ hb3) 26 36 Tryd.underlying26 (by kernel_rfl) hy (j : Int) rfl
              rw [← HN.out] at i1 i2
              have hcx := HC1.out i x (by rw [← HN.out]; omega) HX.out
              have hcy := HC1.out j y (by rw [← HN.out]; omega) hy
              have hk1 := c1.k
              have hk2 := c2.k
              have HP2 := Lib.hid hp2
              have HB3 := Lib.hid hb3
              have HY := Lib.hid hy
              by_cases h1 : x.k = 1
              · by_cases h2 : y.k = 1
                · obtain ⟨o, hox, hok, _⟩ := hcx
                  obtain ⟨o', hoy, hok', _⟩ := hcy
                  have hiff := p2_iff hox hoy h1 h2 (hok.trans h1) (hok'.trans h2)
                  obtain ⟨jx, hjx⟩ : ∃ jx, findI t (L x.p) = some jx := by
                    cases h : findI t (L x.p) with
                    | none => rw [findV_no h] at hox; cases hox
                    | some j => exact ⟨j, rfl⟩
                  obtain ⟨jy, hjy⟩ : ∃ jy, findI t (L y.p) = some jy := by
                    cases h : findI t (L y.p) with
                    | none => rw [findV_no h] at hoy; cases hoy
                    | some j => exact ⟨j, rfl⟩
                  obtain ⟨qx, hqx, _⟩ := findI_some hjx
                  obtain ⟨qy, hqy, _⟩ := findI_some hjy
                  obtain rfl : qx = o := by have := findI_at2 hjx hqx; rw [this] at hox; cases hox; rfl
                  obtain rfl : qy = o' := by have := findI_at2 hjy hqy; rw [this] at hoy; cases hoy; rfl
                  obtain ⟨b3, o3, i3, hb3', c3⟩ := it_at (HT.out _ hb3) 26 36 Tryd.underlying26 (by kernel_rfl) hqx (jx : Int) rfl
                  obtain ⟨b4, o4, i4, hb4', c4⟩ := it_at (HT.out _ hb3) 26 36 Tryd.underlying26 (by kernel_rfl) hqy (jy : Int) rfl
                  rw [← HN2.out] at i3 i4
                  have FX := Lib.hid (CFR.out w3 x.p hb3)
                  have FY := Lib.hid (CFR.out w3 y.p hb3)
                  rw [findZ_some hjx] at FX
                  rw [findZ_some hjy] at FY
                  have NX := Lib.hid (CN.out w3 x)
                  have NY := Lib.hid (CN.out w3 y)
                  have NO1 := Lib.hid (CN.out w3 qx)
                  have NO2 := Lib.hid (CN.out w3 qy)
                  obtain ⟨n1, hn1⟩ : ∃ n, n = fstS x := ⟨_, rfl⟩
                  obtain ⟨n2', hn2'⟩ : ∃ n, n = fstS y := ⟨_, rfl⟩
                  obtain ⟨n3, hn3⟩ : ∃ n, n = fstS qx := ⟨_, rfl⟩
                  obtain ⟨n4, hn4⟩ : ∃ n, n = fstS qy := ⟨_, rfl⟩
                  rw [← hn1] at NX hiff
                  rw [← hn2'] at NY hiff
                  rw [← hn3] at NO1 hiff
                  rw [← hn4] at NO2 hiff
                  obtain ⟨f1, hf1⟩ : ∃ q, (n1.toList == n2'.toList) = q := ⟨_, rfl⟩
                  obtain ⟨f2, hf2⟩ : ∃ q, (n3.toList == n4.toList) = q := ⟨_, rfl⟩
                  rw [hf1, hf2] at hiff
                  have HIFF := Lib.hid hiff
                  obtain ⟨xp, xk, xm, xd, xs⟩ := x
                  obtain ⟨yp, yk, ym, yd, ys⟩ := y
                  obtain ⟨q1p, q1k, q1m, q1d, q1s⟩ := qx
                  obtain ⟨q2p, q2k, q2m, q2d, q2s⟩ := qy
                  simp only [] at h1 h2 hok hok'
                  subst h1 h2
                  obtain rfl := hok
                  obtain rfl := hok'
                  obtain ⟨x0, x1, x2, x3, x4⟩ := c1
                  obtain ⟨y0, y1, y2, y3, y4⟩ := c2
                  obtain ⟨p0, p1, p2, p3, p4⟩ := c3
                  obtain ⟨r0, r1, r2, r3, r4⟩ := c4
                  simp only [] at x0 x1 x2 x3 x4 y0 y1 y2 y3 y4 p0 p1 p2 p3 p4 r0 r1 r2 r3 r4 hk1 hk2
                  unfold itV at NX NY NO1 NO2
                  simp only [] at NX NY NO1 NO2 FX FY
                  clear hp2 hb3 hy hiff hn1 hn2' hn3 hn4 hqx hqy hjx hjy hox hoy hk1 hk2
                  by_cases hff : f1 = f2
                  · have HP2S := Lib.hid (p2To_succ HP2.out HY.out (HIFF.out.2 hff))
                    subst hff
                    have X0 : ∀ d os, (Sort.grow (redrawn w3 d) os).cell? _ = _ := fun d os => cell_regrown x0 d os
                    have X1 : ∀ d os, (Sort.grow (redrawn w3 d) os).cell? _ = _ := fun d os => cell_regrown x1 d os
                    have X2 : ∀ d os, (Sort.grow (redrawn w3 d) os).cell? _ = _ := fun d os => cell_regrown x2 d os
                    have X3 : ∀ d os, (Sort.grow (redrawn w3 d) os).cell? _ = _ := fun d os => cell_regrown x3 d os
                    have X4 : ∀ d os, (Sort.grow (redrawn w3 d) os).cell? _ = _ := fun d os => cell_regrown x4 d os
                    have Y0 : ∀ d os, (Sort.grow (redrawn w3 d) os).cell? _ = _ := fun d os => cell_regrown y0 d os
                    have Y1 : ∀ d os, (Sort.grow (redrawn w3 d) os).cell? _ = _ := fun d os => cell_regrown y1 d os
                    have Y2 : ∀ d os, (Sort.grow (redrawn w3 d) os).cell? _ = _ := fun d os => cell_regrown y2 d os
                    have Y3 : ∀ d os, (Sort.grow (redrawn w3 d) os).cell? _ = _ := fun d os => cell_regrown y3 d os
                    have Y4 : ∀ d os, (Sort.grow (redrawn w3 d) os).cell? _ = _ := fun d os => cell_regrown y4 d os
                    have Q0 : ∀ d os, (Sort.grow (redrawn w3 d) os).cell? _ = _ := fun d os => cell_regrown p0 d os
                    have Q1 : ∀ d os, (Sort.grow (redrawn w3 d) os).cell? _ = _ := fun d os => cell_regrown p1 d os
                    have Q2 : ∀ d os, (Sort.grow (redrawn w3 d) os).cell? _ = _ := fun d os => cell_regrown p2 d os
                    have Q3 : ∀ d os, (Sort.grow (redrawn w3 d) os).cell? _ = _ := fun d os => cell_regrown p3 d os
                    have Q4 : ∀ d os, (Sort.grow (redrawn w3 d) os).cell? _ = _ := fun d os => cell_regrown p4 d os
                    have R0 : ∀ d os, (Sort.grow (redrawn w3 d) os).cell? _ = _ := fun d os => cell_regrown r0 d os
                    have R1 : ∀ d os, (Sort.grow (redrawn w3 d) os).cell? _ = _ := fun d os => cell_regrown r1 d os
                    have R2 : ∀ d os, (Sort.grow (redrawn w3 d) os).cell? _ = _ := fun d os => cell_regrown r2 d os
                    have R3 : ∀ d os, (Sort.grow (redrawn w3 d) os).cell? _ = _ := fun d os => cell_regrown r3 d os
                    have R4 : ∀ d os, (Sort.grow (redrawn w3 d) os).cell? _ = _ := fun d os => cell_regrown r4 d os
                    go_wp2_with fail
                    refine wp_region_quiet_below (by kernel_rfl) (by kernel_rfl) ?_
                    repeat (go_big_quiet_step (with_reducible first | exact FX.out _ _ | exact FY.out _ _ | exact NX.out _ _ | exact NY.out _ _ | exact NO1.out _ _ | exact NO2.out _ _))
                    refine wpQuiet_nil ?_
                    intro _ hw'
                    obtain ⟨⟨dq, osq⟩, hw''⟩ := hw'
                    subst hw''
                    have HB4 := Lib.hid (HB3.out.trans ((below_regrown w3 dq osq).mono HB3.out.size))
                    obtain ⟨w4, hw4⟩ : ∃ w4, w4 = Sort.grow (redrawn w3 dq) osq := ⟨_, rfl⟩
                    rw [← hw4] at HB4 ⊢
                    clear hw4 X0 X1 X2 X3 X4 Y0 Y1 Y2 Y3 Y4 Q0 Q1 Q2 Q3 Q4 R0 R1 R2 R3 R4 x0 x1 x2 x3 x4 y0 y1 y2 y3 y4 p0 p1 p2 p3 p4 r0 r1 r2 r3 r4
                    go_wp2_with fail
                    go_roundw
                    case rel => exact ⟨j + 1, by omega, by go_num, HP2S.out, HB4.out⟩
                    case measure => simp [intOf]; omega
                  · have HNO : Hid (¬ PartP a t) := Lib.hid (fun h => hff (HIFF.out.1 (h.2 i j _ _ HX.out HY.out)))
                    obtain rfl : f2 = !f1 := by cases f1 <;> cases f2 <;> simp_all
                    clear hff
                    have X0 : ∀ d os, (Sort.grow (redrawn w3 d) os).cell? _ = _ := fun d os => cell_regrown x0 d os
                    have X1 : ∀ d os, (Sort.grow (redrawn w3 d) os).cell? _ = _ := fun d os => cell_regrown x1 d os
                    have X2 : ∀ d os, (Sort.grow (redrawn w3 d) os).cell? _ = _ := fun d os => cell_regrown x2 d os
                    have X3 : ∀ d os, (Sort.grow (redrawn w3 d) os).cell? _ = _ := fun d os => cell_regrown x3 d os
                    have X4 : ∀ d os, (Sort.grow (redrawn w3 d) os).cell? _ = _ := fun d os => cell_regrown x4 d os
                    have Y0 : ∀ d os, (Sort.grow (redrawn w3 d) os).cell? _ = _ := fun d os => cell_regrown y0 d os
                    have Y1 : ∀ d os, (Sort.grow (redrawn w3 d) os).cell? _ = _ := fun d os => cell_regrown y1 d os
                    have Y2 : ∀ d os, (Sort.grow (redrawn w3 d) os).cell? _ = _ := fun d os => cell_regrown y2 d os
                    have Y3 : ∀ d os, (Sort.grow (redrawn w3 d) os).cell? _ = _ := fun d os => cell_regrown y3 d os
                    have Y4 : ∀ d os, (Sort.grow (redrawn w3 d) os).cell? _ = _ := fun d os => cell_regrown y4 d os
                    have Q0 : ∀ d os, (Sort.grow (redrawn w3 d) os).cell? _ = _ := fun d os => cell_regrown p0 d os
                    have Q1 : ∀ d os, (Sort.grow (redrawn w3 d) os).cell? _ = _ := fun d os => cell_regrown p1 d os
                    have Q2 : ∀ d os, (Sort.grow (redrawn w3 d) os).cell? _ = _ := fun d os => cell_regrown p2 d os
                    have Q3 : ∀ d os, (Sort.grow (redrawn w3 d) os).cell? _ = _ := fun d os => cell_regrown p3 d os
                    have Q4 : ∀ d os, (Sort.grow (redrawn w3 d) os).cell? _ = _ := fun d os => cell_regrown p4 d os
                    have R0 : ∀ d os, (Sort.grow (redrawn w3 d) os).cell? _ = _ := fun d os => cell_regrown r0 d os
                    have R1 : ∀ d os, (Sort.grow (redrawn w3 d) os).cell? _ = _ := fun d os => cell_regrown r1 d os
                    have R2 : ∀ d os, (Sort.grow (redrawn w3 d) os).cell? _ = _ := fun d os => cell_regrown r2 d os
                    have R3 : ∀ d os, (Sort.grow (redrawn w3 d) os).cell? _ = _ := fun d os => cell_regrown r3 d os
                    have R4 : ∀ d os, (Sort.grow (redrawn w3 d) os).cell? _ = _ := fun d os => cell_regrown r4 d os
                    go_wp2_with fail
                    refine wp_region_quiet_below (by kernel_rfl) (by kernel_rfl) ?_
                    repeat (go_big_quiet_step (with_reducible first | exact FX.out _ _ | exact FY.out _ _ | exact NX.out _ _ | exact NY.out _ _ | exact NO1.out _ _ | exact NO2.out _ _))
                    refine wpQuiet_nil ?_
                    intro _ hw'
                    obtain ⟨⟨dq, osq⟩, hw''⟩ := hw'
                    subst hw''
                    have HB4 := Lib.hid (HB3.out.trans ((below_regrown w3 dq osq).mono HB3.out.size))
                    obtain ⟨w4, hw4⟩ : ∃ w4, w4 = Sort.grow (redrawn w3 dq) osq := ⟨_, rfl⟩
                    rw [← hw4] at HB4 ⊢
                    clear hw4 X0 X1 X2 X3 X4 Y0 Y1 Y2 Y3 Y4 Q0 Q1 Q2 Q3 Q4 R0 R1 R2 R3 R4 x0 x1 x2 x3 x4 y0 y1 y2 y3 y4 p0 p1 p2 p3 p4 r0 r1 r2 r3 r4
                    go_wp2_with fail
                    go_ret
                    refine ⟨_, rfl, ?_, HB4.out⟩
                    exact ⟨fun h => (by first | cases h | simp at h), fun h => absurd h HNO.out⟩
                · have t1 : (y.k != 1) = true := by simpa using h2
                  have t0 : (x.k != 1) = false := by simp [h1]
                  have HP2S := Lib.hid (p2To_succ HP2.out HY.out (p2_kind hcx hcy (by rintro ⟨q1, q2⟩; first | exact h2 q1 | exact h2 q2)))
                  clear hp2 hb3 hy hcx hcy c1 c2 h2
                  go_wp2
                  go_roundw
                  case rel => exact ⟨j + 1, by omega, by go_num, HP2S.out, HB3.out⟩
                  case measure => simp [intOf]; omega
              · have t1 : (x.k != 1) = true := by simpa using h1
                have HP2S := Lib.hid (p2To_succ HP2.out HY.out (p2_kind hcx hcy (by rintro ⟨q1, q2⟩; first | exact h1 q1 | exact h1 q2)))
                clear hp2 hb3 hy hcx hcy c1 c2 h1
                go_wp2
                go_roundw
                case rel => exact ⟨j + 1, by omega, by go_num, HP2S.out, HB3.out⟩
                case measure => simp [intOf]; omega
            · obtain rfl : j = k := by omega
              have HAS := Lib.hid (allTo_succ HALL.out HX.out (by rw [← HN.out]; exact hp2))
              have HB3 := Lib.hid hb3
              clear hp2 hb3
              go_wp2_with fail
              go_roundw
              case rel => exact ⟨i + 1, by omega, by go_num, HAS.out, HB3.out⟩
              case measure => simp [intOf]; omega
        · obtain rfl : i = k := by omega
          have HY : Hid (PartP a t) := Lib.hid ⟨fun j x hx => HC1.out j x (List.getElem?_eq_some_iff.1 hx).1 hx, fun j m x y hx hy => hall j x (by rw [HN.out]; exact (List.getElem?_eq_some_iff.1 hx).1) hx m y (List.getElem?_eq_some_iff.1 hy).1 hy⟩
          have HB2 := Lib.hid hb2
          clear hall hb2
          go_wp2_with fail
          go_ret
          exact ⟨true, rfl, ⟨fun _ => HY.out, fun _ => rfl⟩, HB2.out⟩
end Go.Proofs.YtdelgbkllnccoaaDoor
