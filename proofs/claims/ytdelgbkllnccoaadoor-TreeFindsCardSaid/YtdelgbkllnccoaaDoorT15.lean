/-
  Two trees that are the same: the walks of Same and of the statement's own same.
-/
import Derived.Test.YtdelgbkllnccoaaDoorT8
import Derived.Deep.RegionHeld3
namespace Go.Proofs.YtdelgbkllnccoaaDoor
open Go.RowKit

def eqIt (modes : Bool) (x y : It) : Bool := (x.p.toList == y.p.toList) && (x.k == y.k) && (!modes || x.m == y.m) && (x.d.toList == y.d.toList) && (x.s.toList == y.s.toList)
/-- The same items. -/
def SameP (modes : Bool) (a b : List It) : Prop := a.length = b.length ∧ ∀ (i : Nat) (x y : It), a[i]? = some x → b[i]? = some y → eqIt modes x y = true
def sameTo (modes : Bool) (a b : List It) (k : Nat) : Prop := ∀ (i : Nat) (x y : It), i < k → a[i]? = some x → b[i]? = some y → eqIt modes x y = true
theorem sameTo_succ {modes : Bool} {a b : List It} {k : Nat} {x y : It} (h : sameTo modes a b k) (hx : a[k]? = some x) (hy : b[k]? = some y) (he : eqIt modes x y = true) : sameTo modes a b (k + 1) := fun i x' y' hi hx' hy' => by
  by_cases h1 : i < k
  · exact h i x' y' h1 hx' hy'
  · obtain rfl : i = k := by omega
    rw [hx] at hx'; rw [hy] at hy'
    cases hx'; cases hy'
    exact he
/-- b tells it. -/
def Says (b : Bool) (p : Prop) : Prop := b = true ↔ p
theorem Says.same {b c : Bool} {p : Prop} (h : Says b p) (h' : Says c p) : b = c := by
  cases b <;> cases c <;> simp_all [Says]

set_option maxHeartbeats 2000000 in
theorem Same_any (modes : Bool) (a b : List It) (v u : Value) (w : World) (ha : Tr w w.heap.size v a) (hb0 : Tr w w.heap.size u b) :
    Calls Tryd.prog 21 #[v, u, .bool modes] w fun e w' => ∃ r, e = .returned (.bool r) ∧ Says r (SameP modes a b) ∧ Below w.heap.size w w' := by
  obtain ⟨aa, ac, rfl, hm⟩ := tr_shape ha
  obtain ⟨ba, bc, rfl, hm2⟩ := tr_shape hb0
  obtain ⟨n, hn⟩ : ∃ n, n = a.length := ⟨_, rfl⟩
  obtain ⟨n2, hn2⟩ : ∃ n, n = b.length := ⟨_, rfl⟩
  rw [← hn] at hm
  rw [← hn2] at hm2
  have HA := Lib.hid ha
  have HBB := Lib.hid hb0
  have HN := Lib.hid hn
  have HN2 := Lib.hid hn2
  clear ha hb0
  rw [← hn, ← hn2]
  clear hn hn2
  obtain ⟨SP, hSP⟩ : ∃ SP : Prop, SP = SameP modes a b := ⟨_, rfl⟩
  rw [← hSP]
  have HSP := Lib.hid hSP
  clear hSP
  by_cases hne : n = n2
  · subst hne
    go_enter Tryd.func21, Tryd.ntmps21
    go_wp2_with fail
    go_loopw [17] (fun i wr => ∃ k : Nat, k ≤ n ∧ i = .int .i64 k ∧ sameTo modes a b k ∧ Below w.heap.size w wr) (fun i _ => n - (intOf i).toNat)
    case atStart => exact ⟨0, Nat.zero_le _, rfl, fun i x y hi => by omega, Below.refl _ _⟩
    case round =>
      obtain ⟨k, hk, rfl, hs, hb⟩ := hrel
      obtain ⟨wo, rfl⟩ : ∃ wo : World, wo = wr := ⟨_, rfl⟩
      have hbs := hb.size
      by_cases hlt : k < n
      · obtain ⟨x, hx⟩ : ∃ x, a[k]? = some x := ⟨_, List.getElem?_eq_getElem (by rw [← HN.out]; exact hlt)⟩
        obtain ⟨y, hy⟩ : ∃ y, b[k]? = some y := ⟨_, List.getElem?_eq_getElem (by rw [← HN2.out]; exact hlt)⟩
        obtain ⟨b1, o1, i1, hb1, c1⟩ := it_at (HA.out.below hb) 23 44 Tryd.underlying23 (by kernel_rfl) hx (k : Int) rfl
        obtain ⟨b2, o2, i2, hb2, d1⟩ := it_at (HBB.out.below hb) 23 44 Tryd.underlying23 (by kernel_rfl) hy (k : Int) rfl
        obtain ⟨c2, c3, c4, c5, c6⟩ := c1
        obtain ⟨d2, d3, d4, d5, d6⟩ := d1
        rw [← HN.out] at i1
        rw [← HN2.out] at i2
        have hb1' : b1 < wo.heap.size := by omega
        have hb2' : b2 < wo.heap.size := by omega
        have HS := Lib.hid hs
        have HB := Lib.hid hb
        have HX := Lib.hid hx
        have HY := Lib.hid hy
        obtain ⟨r, hr⟩ : ∃ r, r = eqIt modes x y := ⟨_, rfl⟩
        have HRR := Lib.hid hr
        obtain ⟨xp, xk, xm, xd, xs⟩ := x
        obtain ⟨yp, yk, ym, yd, ys⟩ := y
        unfold eqIt at hr
        simp only [] at hr c2 c3 c4 c5 c6 d2 d3 d4 d5 d6
        clear hs hb hx hy
        obtain ⟨f1, hf1⟩ : ∃ q, (xp.toList == yp.toList) = q := ⟨_, rfl⟩
        obtain ⟨f2, hf2⟩ : ∃ q, (xk == yk) = q := ⟨_, rfl⟩
        obtain ⟨f3, hf3⟩ : ∃ q, (xm == ym) = q := ⟨_, rfl⟩
        obtain ⟨f4, hf4⟩ : ∃ q, (xd.toList == yd.toList) = q := ⟨_, rfl⟩
        obtain ⟨f5, hf5⟩ : ∃ q, (xs.toList == ys.toList) = q := ⟨_, rfl⟩
        rw [hf1, hf2, hf3, hf4, hf5] at hr
        cases modes
        ·
          cases f1
          ·
            have HNO : Hid (¬ SP) := Lib.hid (fun h => by
              rw [HSP.out] at h
              have := h.2 k _ _ HX.out HY.out
              rw [← HRR.out, hr] at this
              simp at this)
            clear hr
            go_wp2
            go_ret
            refine ⟨_, rfl, ?_, by have h1 := HB.out; have h2 := h1.size; go_grown⟩
            exact ⟨fun h => (by first | cases h | simp at h), fun h => absurd h HNO.out⟩
          ·
            cases f2
            ·
              have HNO : Hid (¬ SP) := Lib.hid (fun h => by
                rw [HSP.out] at h
                have := h.2 k _ _ HX.out HY.out
                rw [← HRR.out, hr] at this
                simp at this)
              clear hr
              go_wp2
              go_ret
              refine ⟨_, rfl, ?_, by have h1 := HB.out; have h2 := h1.size; go_grown⟩
              exact ⟨fun h => (by first | cases h | simp at h), fun h => absurd h HNO.out⟩
            ·
              cases f4
              ·
                have HNO : Hid (¬ SP) := Lib.hid (fun h => by
                  rw [HSP.out] at h
                  have := h.2 k _ _ HX.out HY.out
                  rw [← HRR.out, hr] at this
                  simp at this)
                clear hr
                go_wp2
                go_ret
                refine ⟨_, rfl, ?_, by have h1 := HB.out; have h2 := h1.size; go_grown⟩
                exact ⟨fun h => (by first | cases h | simp at h), fun h => absurd h HNO.out⟩
              ·
                cases f5
                ·
                  have HNO : Hid (¬ SP) := Lib.hid (fun h => by
                    rw [HSP.out] at h
                    have := h.2 k _ _ HX.out HY.out
                    rw [← HRR.out, hr] at this
                    simp at this)
                  clear hr
                  go_wp2
                  go_ret
                  refine ⟨_, rfl, ?_, by have h1 := HB.out; have h2 := h1.size; go_grown⟩
                  exact ⟨fun h => (by first | cases h | simp at h), fun h => absurd h HNO.out⟩
                ·
                  have HRT : Hid (r = true) := Lib.hid (by rw [hr]; rfl)
                  clear hr
                  go_wp2
                  go_roundw
                  case rel => exact ⟨k + 1, by omega, by go_num, sameTo_succ HS.out HX.out HY.out (HRR.out.symm.trans HRT.out), by have h1 := HB.out; have h2 := h1.size; go_grown⟩
                  case measure => simp [intOf]; omega
        ·
          cases f1
          ·
            have HNO : Hid (¬ SP) := Lib.hid (fun h => by
              rw [HSP.out] at h
              have := h.2 k _ _ HX.out HY.out
              rw [← HRR.out, hr] at this
              simp at this)
            clear hr
            go_wp2
            go_ret
            refine ⟨_, rfl, ?_, by have h1 := HB.out; have h2 := h1.size; go_grown⟩
            exact ⟨fun h => (by first | cases h | simp at h), fun h => absurd h HNO.out⟩
          ·
            cases f2
            ·
              have HNO : Hid (¬ SP) := Lib.hid (fun h => by
                rw [HSP.out] at h
                have := h.2 k _ _ HX.out HY.out
                rw [← HRR.out, hr] at this
                simp at this)
              clear hr
              go_wp2
              go_ret
              refine ⟨_, rfl, ?_, by have h1 := HB.out; have h2 := h1.size; go_grown⟩
              exact ⟨fun h => (by first | cases h | simp at h), fun h => absurd h HNO.out⟩
            ·
              cases f3
              ·
                have HNO : Hid (¬ SP) := Lib.hid (fun h => by
                  rw [HSP.out] at h
                  have := h.2 k _ _ HX.out HY.out
                  rw [← HRR.out, hr] at this
                  simp at this)
                clear hr
                go_wp2
                go_ret
                refine ⟨_, rfl, ?_, by have h1 := HB.out; have h2 := h1.size; go_grown⟩
                exact ⟨fun h => (by first | cases h | simp at h), fun h => absurd h HNO.out⟩
              ·
                cases f4
                ·
                  have HNO : Hid (¬ SP) := Lib.hid (fun h => by
                    rw [HSP.out] at h
                    have := h.2 k _ _ HX.out HY.out
                    rw [← HRR.out, hr] at this
                    simp at this)
                  clear hr
                  go_wp2
                  go_ret
                  refine ⟨_, rfl, ?_, by have h1 := HB.out; have h2 := h1.size; go_grown⟩
                  exact ⟨fun h => (by first | cases h | simp at h), fun h => absurd h HNO.out⟩
                ·
                  cases f5
                  ·
                    have HNO : Hid (¬ SP) := Lib.hid (fun h => by
                      rw [HSP.out] at h
                      have := h.2 k _ _ HX.out HY.out
                      rw [← HRR.out, hr] at this
                      simp at this)
                    clear hr
                    go_wp2
                    go_ret
                    refine ⟨_, rfl, ?_, by have h1 := HB.out; have h2 := h1.size; go_grown⟩
                    exact ⟨fun h => (by first | cases h | simp at h), fun h => absurd h HNO.out⟩
                  ·
                    have HRT : Hid (r = true) := Lib.hid (by rw [hr]; rfl)
                    clear hr
                    go_wp2
                    go_roundw
                    case rel => exact ⟨k + 1, by omega, by go_num, sameTo_succ HS.out HX.out HY.out (HRR.out.symm.trans HRT.out), by have h1 := HB.out; have h2 := h1.size; go_grown⟩
                    case measure => simp [intOf]; omega
      · obtain rfl : k = n := by omega
        have HY : Hid SP := Lib.hid (by rw [HSP.out]; exact ⟨HN.out.symm.trans HN2.out, fun i x y hx hy => hs i x y (by rw [HN.out]; exact (List.getElem?_eq_some_iff.1 hx).1) hx hy⟩)
        have HB := Lib.hid hb
        clear hs hb
        go_wp2
        go_ret
        exact ⟨true, rfl, ⟨fun _ => HY.out, fun _ => rfl⟩, HB.out⟩
  · have hnn : ((n : Int) != (n2 : Int)) = true := by rw [bne_iff_ne]; omega
    have HNO : Hid (¬ SP) := Lib.hid (fun h => hne (by rw [HSP.out] at h; rw [HN.out, HN2.out]; exact h.1))
    clear hne
    go_enter Tryd.func21, Tryd.ntmps21
    go_wp2
    go_ret
    exact ⟨false, rfl, ⟨fun h => (by cases h), fun h => absurd h HNO.out⟩, Below.refl _ _⟩

set_option maxHeartbeats 2000000 in
theorem same_any (modes : Bool) (a b : List It) (v u : Value) (w : World) (ha : Tr w w.heap.size v a) (hb0 : Tr w w.heap.size u b) :
    Calls Tryd.prog 19 #[v, u, .bool modes] w fun e w' => ∃ r, e = .returned (.bool r) ∧ Says r (SameP modes a b) ∧ Below w.heap.size w w' := by
  obtain ⟨aa, ac, rfl, hm⟩ := tr_shape ha
  obtain ⟨ba, bc, rfl, hm2⟩ := tr_shape hb0
  obtain ⟨n, hn⟩ : ∃ n, n = a.length := ⟨_, rfl⟩
  obtain ⟨n2, hn2⟩ : ∃ n, n = b.length := ⟨_, rfl⟩
  rw [← hn] at hm
  rw [← hn2] at hm2
  have HA := Lib.hid ha
  have HBB := Lib.hid hb0
  have HN := Lib.hid hn
  have HN2 := Lib.hid hn2
  clear ha hb0
  rw [← hn, ← hn2]
  clear hn hn2
  obtain ⟨SP, hSP⟩ : ∃ SP : Prop, SP = SameP modes a b := ⟨_, rfl⟩
  rw [← hSP]
  have HSP := Lib.hid hSP
  clear hSP
  by_cases hne : n = n2
  · subst hne
    go_enter Tryd.func19, Tryd.ntmps19
    go_wp2_with fail
    go_loopw [17] (fun i wr => ∃ k : Nat, k ≤ n ∧ i = .int .i64 k ∧ sameTo modes a b k ∧ Below w.heap.size w wr) (fun i _ => n - (intOf i).toNat)
    case atStart => exact ⟨0, Nat.zero_le _, rfl, fun i x y hi => by omega, Below.refl _ _⟩
    case round =>
      obtain ⟨k, hk, rfl, hs, hb⟩ := hrel
      obtain ⟨wo, rfl⟩ : ∃ wo : World, wo = wr := ⟨_, rfl⟩
      have hbs := hb.size
      by_cases hlt : k < n
      · obtain ⟨x, hx⟩ : ∃ x, a[k]? = some x := ⟨_, List.getElem?_eq_getElem (by rw [← HN.out]; exact hlt)⟩
        obtain ⟨y, hy⟩ : ∃ y, b[k]? = some y := ⟨_, List.getElem?_eq_getElem (by rw [← HN2.out]; exact hlt)⟩
        obtain ⟨b1, o1, i1, hb1, c1⟩ := it_at (HA.out.below hb) 22 44 Tryd.underlying22 (by kernel_rfl) hx (k : Int) rfl
        obtain ⟨b2, o2, i2, hb2, d1⟩ := it_at (HBB.out.below hb) 22 44 Tryd.underlying22 (by kernel_rfl) hy (k : Int) rfl
        obtain ⟨c2, c3, c4, c5, c6⟩ := c1
        obtain ⟨d2, d3, d4, d5, d6⟩ := d1
        rw [← HN.out] at i1
        rw [← HN2.out] at i2
        have hb1' : b1 < wo.heap.size := by omega
        have hb2' : b2 < wo.heap.size := by omega
        have HS := Lib.hid hs
        have HB := Lib.hid hb
        have HX := Lib.hid hx
        have HY := Lib.hid hy
        obtain ⟨r, hr⟩ : ∃ r, r = eqIt modes x y := ⟨_, rfl⟩
        have HRR := Lib.hid hr
        obtain ⟨xp, xk, xm, xd, xs⟩ := x
        obtain ⟨yp, yk, ym, yd, ys⟩ := y
        unfold eqIt at hr
        simp only [] at hr c2 c3 c4 c5 c6 d2 d3 d4 d5 d6
        clear hs hb hx hy
        obtain ⟨f1, hf1⟩ : ∃ q, (xp.toList == yp.toList) = q := ⟨_, rfl⟩
        obtain ⟨f2, hf2⟩ : ∃ q, (xk == yk) = q := ⟨_, rfl⟩
        obtain ⟨f3, hf3⟩ : ∃ q, (xm == ym) = q := ⟨_, rfl⟩
        obtain ⟨f4, hf4⟩ : ∃ q, (xd.toList == yd.toList) = q := ⟨_, rfl⟩
        obtain ⟨f5, hf5⟩ : ∃ q, (xs.toList == ys.toList) = q := ⟨_, rfl⟩
        rw [hf1, hf2, hf3, hf4, hf5] at hr
        go_wp2_with fail
        go_region_held3 (fun w' => w'.cell? ⟨b1, o1, none⟩ = some (.string xp) ∧ w'.cell? ⟨b1, o1 + 1, none⟩ = some (.int .i64 xk) ∧ w'.cell? ⟨b1, o1 + 2, none⟩ = some (.int .i64 xm) ∧ w'.cell? ⟨b1, o1 + 3, none⟩ = some (.string xd) ∧ w'.cell? ⟨b1, o1 + 4, none⟩ = some (.string xs) ∧ w'.cell? ⟨b2, o2, none⟩ = some (.string yp) ∧ w'.cell? ⟨b2, o2 + 1, none⟩ = some (.int .i64 yk) ∧ w'.cell? ⟨b2, o2 + 2, none⟩ = some (.int .i64 ym) ∧ w'.cell? ⟨b2, o2 + 3, none⟩ = some (.string yd) ∧ w'.cell? ⟨b2, o2 + 4, none⟩ = some (.string ys)) (go_keep) (fail)
        all_goals
          cases modes
          ·
            cases f1
            ·
              have HNO : Hid (¬ SP) := Lib.hid (fun h => by
                rw [HSP.out] at h
                have := h.2 k _ _ HX.out HY.out
                rw [← HRR.out, hr] at this
                simp at this)
              clear hr
              go_wp2
              go_ret
              refine ⟨_, rfl, ?_, by have h1 := HB.out; have h2 := h1.size; go_grown⟩
              exact ⟨fun h => (by first | cases h | simp at h), fun h => absurd h HNO.out⟩
            ·
              cases f2
              ·
                have HNO : Hid (¬ SP) := Lib.hid (fun h => by
                  rw [HSP.out] at h
                  have := h.2 k _ _ HX.out HY.out
                  rw [← HRR.out, hr] at this
                  simp at this)
                clear hr
                go_wp2
                go_ret
                refine ⟨_, rfl, ?_, by have h1 := HB.out; have h2 := h1.size; go_grown⟩
                exact ⟨fun h => (by first | cases h | simp at h), fun h => absurd h HNO.out⟩
              ·
                cases f4
                ·
                  have HNO : Hid (¬ SP) := Lib.hid (fun h => by
                    rw [HSP.out] at h
                    have := h.2 k _ _ HX.out HY.out
                    rw [← HRR.out, hr] at this
                    simp at this)
                  clear hr
                  go_wp2
                  go_ret
                  refine ⟨_, rfl, ?_, by have h1 := HB.out; have h2 := h1.size; go_grown⟩
                  exact ⟨fun h => (by first | cases h | simp at h), fun h => absurd h HNO.out⟩
                ·
                  cases f5
                  ·
                    have HNO : Hid (¬ SP) := Lib.hid (fun h => by
                      rw [HSP.out] at h
                      have := h.2 k _ _ HX.out HY.out
                      rw [← HRR.out, hr] at this
                      simp at this)
                    clear hr
                    go_wp2
                    go_ret
                    refine ⟨_, rfl, ?_, by have h1 := HB.out; have h2 := h1.size; go_grown⟩
                    exact ⟨fun h => (by first | cases h | simp at h), fun h => absurd h HNO.out⟩
                  ·
                    have HRT : Hid (r = true) := Lib.hid (by rw [hr]; rfl)
                    clear hr
                    go_wp2
                    go_roundw
                    case rel => exact ⟨k + 1, by omega, by go_num, sameTo_succ HS.out HX.out HY.out (HRR.out.symm.trans HRT.out), by have h1 := HB.out; have h2 := h1.size; go_grown⟩
                    case measure => simp [intOf]; omega
          ·
            cases f1
            ·
              have HNO : Hid (¬ SP) := Lib.hid (fun h => by
                rw [HSP.out] at h
                have := h.2 k _ _ HX.out HY.out
                rw [← HRR.out, hr] at this
                simp at this)
              clear hr
              go_wp2
              go_ret
              refine ⟨_, rfl, ?_, by have h1 := HB.out; have h2 := h1.size; go_grown⟩
              exact ⟨fun h => (by first | cases h | simp at h), fun h => absurd h HNO.out⟩
            ·
              cases f2
              ·
                have HNO : Hid (¬ SP) := Lib.hid (fun h => by
                  rw [HSP.out] at h
                  have := h.2 k _ _ HX.out HY.out
                  rw [← HRR.out, hr] at this
                  simp at this)
                clear hr
                go_wp2
                go_ret
                refine ⟨_, rfl, ?_, by have h1 := HB.out; have h2 := h1.size; go_grown⟩
                exact ⟨fun h => (by first | cases h | simp at h), fun h => absurd h HNO.out⟩
              ·
                cases f3
                ·
                  have HNO : Hid (¬ SP) := Lib.hid (fun h => by
                    rw [HSP.out] at h
                    have := h.2 k _ _ HX.out HY.out
                    rw [← HRR.out, hr] at this
                    simp at this)
                  clear hr
                  go_wp2
                  go_ret
                  refine ⟨_, rfl, ?_, by have h1 := HB.out; have h2 := h1.size; go_grown⟩
                  exact ⟨fun h => (by first | cases h | simp at h), fun h => absurd h HNO.out⟩
                ·
                  cases f4
                  ·
                    have HNO : Hid (¬ SP) := Lib.hid (fun h => by
                      rw [HSP.out] at h
                      have := h.2 k _ _ HX.out HY.out
                      rw [← HRR.out, hr] at this
                      simp at this)
                    clear hr
                    go_wp2
                    go_ret
                    refine ⟨_, rfl, ?_, by have h1 := HB.out; have h2 := h1.size; go_grown⟩
                    exact ⟨fun h => (by first | cases h | simp at h), fun h => absurd h HNO.out⟩
                  ·
                    cases f5
                    ·
                      have HNO : Hid (¬ SP) := Lib.hid (fun h => by
                        rw [HSP.out] at h
                        have := h.2 k _ _ HX.out HY.out
                        rw [← HRR.out, hr] at this
                        simp at this)
                      clear hr
                      go_wp2
                      go_ret
                      refine ⟨_, rfl, ?_, by have h1 := HB.out; have h2 := h1.size; go_grown⟩
                      exact ⟨fun h => (by first | cases h | simp at h), fun h => absurd h HNO.out⟩
                    ·
                      have HRT : Hid (r = true) := Lib.hid (by rw [hr]; rfl)
                      clear hr
                      go_wp2
                      go_roundw
                      case rel => exact ⟨k + 1, by omega, by go_num, sameTo_succ HS.out HX.out HY.out (HRR.out.symm.trans HRT.out), by have h1 := HB.out; have h2 := h1.size; go_grown⟩
                      case measure => simp [intOf]; omega
      · obtain rfl : k = n := by omega
        have HY : Hid SP := Lib.hid (by rw [HSP.out]; exact ⟨HN.out.symm.trans HN2.out, fun i x y hx hy => hs i x y (by rw [HN.out]; exact (List.getElem?_eq_some_iff.1 hx).1) hx hy⟩)
        have HB := Lib.hid hb
        clear hs hb
        go_wp2
        go_ret
        exact ⟨true, rfl, ⟨fun _ => HY.out, fun _ => rfl⟩, HB.out⟩
  · have hnn : ((n : Int) != (n2 : Int)) = true := by rw [bne_iff_ne]; omega
    have HNO : Hid (¬ SP) := Lib.hid (fun h => hne (by rw [HSP.out] at h; rw [HN.out, HN2.out]; exact h.1))
    clear hne
    go_enter Tryd.func19, Tryd.ntmps19
    go_wp2
    go_ret
    exact ⟨false, rfl, ⟨fun h => (by cases h), fun h => absurd h HNO.out⟩, Below.refl _ _⟩
end Go.Proofs.YtdelgbkllnccoaaDoor
