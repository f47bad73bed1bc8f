/-
  The walks of Under, Less, name, first, one.
-/
import Derived.Test.YtdelgbkllnccoaaDoorT15
import Derived.Deep.QuietTactic
import Derived.Deep.RegionHeld3
import Derived.BigQuiet
import Derived.Lib.QuietBelow
namespace Go.Proofs.YtdelgbkllnccoaaDoor
open Go.RowKit

/-- Does an item lie under a path, or at it? -/
def uB (x : It) (s : ByteArray) : Bool := (x.p.toList == s.toList) || underB (L x.p) (L s)
def lessL (l : List It) (s : ByteArray) : List It := l.filter fun x => !uB x s
theorem less_snoc {l : List It} {k : Nat} {x : It} (h : l[k]? = some x) (s : ByteArray) : lessL (l.take (k + 1)) s = if uB x s then lessL (l.take k) s else lessL (l.take k) s ++ [x] := by
  rw [lessL, take_snoc' h, List.filter_append]
  cases hb : uB x s <;> simp [hb, lessL]
theorem less_len (l : List It) (s : ByteArray) (k : Nat) : (lessL (l.take k) s).length ≤ k := Nat.le_trans (List.length_filter_le _ _) (by rw [List.length_take]; omega)

theorem runder_any (s t : ByteArray) (w : World) (_ : s.size ≤ 100000) (ht : t.size ≤ 100000) :
    Calls Tryd.prog 18 #[.string s, .string t] w fun e w' => e = .returned (.bool ((s.toList == t.toList) || underB (L s) (L t))) ∧ w' = w := by
  obtain ⟨u, hu⟩ : ∃ u, u = ((s.toList == t.toList) || underB (L s) (L t)) := ⟨_, rfl⟩
  rw [← hu]
  by_cases h0 : L s = L t
  · have e1 := eq_L h0
    obtain rfl : u = true := by rw [hu, e1]; rfl
    clear hu h0
    go_enter Tryd.func18, Tryd.ntmps18
    go_wp2
    go_ret
    exact ⟨rfl, rfl⟩
  · have e1 := ne_L h0
    rw [e1, Bool.false_or, underB] at hu
    by_cases h1 : t.size < s.size
    · rw [decide_eq_true (show (L t).length < (L s).length from h1), Bool.true_and] at hu
      have i0 := run_idx (P := Tryd.prog) (k := .i64) Tryd.underlying9 s (t.size : Int) t.size rfl h1
      obtain ⟨c, hc⟩ : ∃ c, c = (L s).getD t.size 0 := ⟨_, rfl⟩
      rw [L_size, ← hc] at hu
      rw [← hc] at i0
      have hx : (s.extract 0 t.size).toList = (L s).take t.size := by rw [S_extract_to, toList_S]
      rw [← hx, ← toList_L] at hu
      obtain ⟨q, hq⟩ : ∃ q, ((s.extract 0 t.size).toList == t.toList) = q := ⟨_, rfl⟩
      rw [hq] at hu
      clear hc hx h0
      cases q
      · obtain rfl : u = false := by rw [hu]; rfl
        clear hu
        go_enter Tryd.func18, Tryd.ntmps18
        go_wp2
        go_ret
        exact ⟨rfl, rfl⟩
      · by_cases h47 : c = 47
        · have et := eq47 h47
          obtain rfl : u = true := by rw [hu, h47]; rfl
          clear hu h47
          go_enter Tryd.func18, Tryd.ntmps18
          go_wp2
          go_ret
          exact ⟨rfl, rfl⟩
        · have et := ne47 h47
          obtain rfl : u = false := by rw [hu]; simpa using h47
          clear hu h47
          go_enter Tryd.func18, Tryd.ntmps18
          go_wp2
          go_ret
          exact ⟨rfl, rfl⟩
    · rw [decide_eq_false (show ¬ (L t).length < (L s).length from h1)] at hu
      obtain rfl : u = false := by rw [hu]; rfl
      clear hu h0
      go_enter Tryd.func18, Tryd.ntmps18
      go_wp2
      go_ret
      exact ⟨rfl, rfl⟩

set_option maxHeartbeats 1000000 in
theorem less_any (l : List It) (v : Value) (s : ByteArray) (w : World) (hl : Tr w w.heap.size v l) (h30 : l.length ≤ 30) :
    Calls Tryd.prog 20 #[v, .string s] w fun e w' => ∃ v', e = .returned v' ∧ w'.ownsRow w.heap.size 44 5 v' (lessL l s).length ((lessL l s).flatMap itC) ∧ Below w.heap.size w w' := by
  obtain ⟨a, cap, rfl, hm⟩ := tr_shape hl
  obtain ⟨n, hn⟩ : ∃ n, n = l.length := ⟨_, rfl⟩
  rw [← hn] at hm h30
  have HL := Lib.hid hl
  have HN := Lib.hid hn
  clear hl
  rw [← hn]
  clear hn
  go_enter Tryd.func20, Tryd.ntmps20
  go_wp2_with fail
  go_loopw [5, 10] (fun v3 i wr => ∃ k : Nat, k ≤ n ∧ i = .int .i64 k ∧ wr.ownsRow w.heap.size 44 5 v3 (lessL (l.take k) s).length ((lessL (l.take k) s).flatMap itC) ∧ Below w.heap.size w wr) (fun _ i _ => n - (intOf i).toNat)
  case atStart => exact ⟨0, Nat.zero_le _, rfl, World.ownsRow_nil _ _ _ _, Below.refl _ _⟩
  case round =>
    obtain ⟨k, hk, rfl, hown, hb⟩ := hrel
    obtain ⟨wo, rfl⟩ : ∃ wo : World, wo = wr := ⟨_, rfl⟩
    have hbs := hb.size
    obtain ⟨oa, oc, rfl⟩ := own_shape hown
    have hll := less_len l s k
    by_cases hlt : k < n
    · obtain ⟨x, hx⟩ : ∃ x, l[k]? = some x := ⟨_, List.getElem?_eq_getElem (by rw [← HN.out]; omega)⟩
      obtain ⟨b1, o1, i1, hb1, c1⟩ := it_at (HL.out.below hb) 23 44 Tryd.underlying23 (by kernel_rfl) hx (k : Int) rfl
      obtain ⟨c2, c3, c4, c5, c6⟩ := c1
      rw [← HN.out] at i1
      have hb1' : b1 < wo.heap.size := by omega
      have hsn := less_snoc hx s
      obtain ⟨q, hq⟩ : ∃ q, q = uB x s := ⟨_, rfl⟩
      rw [← hq] at hsn
      obtain ⟨p, kk, m, d, s'⟩ := x
      simp only [uB] at c2 c3 c4 c5 c6 hq
      obtain ⟨u1, hu1⟩ : ∃ u, (p.toList == s.toList) = u := ⟨_, rfl⟩
      obtain ⟨u2, hu2⟩ : ∃ u, u = underB (L p) (L s) := ⟨_, rfl⟩
      rw [hu1, ← hu2] at hq
      have CU : Hid (∀ W, Calls Tryd.prog 30 #[.string p, .string s] W fun e w' => e = .returned (.bool u2) ∧ W = w') := Lib.hid fun W => by rw [hu2]; exact (under_any p s W).mono fun e w' h => ⟨h.1, h.2.symm⟩
      obtain ⟨D, hD⟩ : ∃ D, D = lessL (l.take k) s := ⟨_, rfl⟩
      rw [← hD] at hown hsn hll ⊢
      obtain ⟨c, hc⟩ : ∃ c, c = D.length := ⟨_, rfl⟩
      rw [← hc] at hown hll ⊢
      have HSN := Lib.hid hsn
      have HO := Lib.hid hown
      have HB := Lib.hid hb
      have HC := Lib.hid hc
      clear hx hown hb hsn hD hc hu2
      have hk24 : (c + 1) * 64 ≤ 140737488355328 := by omega
      cases u1
      · cases u2
        · -- it stays
          obtain rfl : q = false := hq
          go_wp2_with fail
          refine (CU.out _).mono ?_
          rintro e w1 ⟨rfl, rfl⟩
          go_wp2_with (at_builtin; go_must ((refine append_sl2 rfl _ _ 23 rfl w.heap.size 44 Tryd.underlying23 infoIt rfl (by decide) (v := .slice oa c oc) (n := c) (xs := D.flatMap itC) rfl ((HO.out.alloc _).alloc _) (m := 1) (news := itC ⟨p, kk, m, d, s'⟩) rfl (sl_made_at _ #[.string p, .int .i64 kk, .int .i64 m, .string d, .string s'] _ 1 5 rfl (by unfold maxLen; omega) (by simp)) (by omega) (its_one [⟨p, kk, m, d, s'⟩]) hk24 (by unfold maxLen; omega) (by simp; omega) ?_); intro g1 cap1 w2 hown hgrow hlie hglt; have HB2 := Lib.hid (((HB.out.alloc hbs _).alloc (by simp; omega) _).grown hgrow (by simp; omega) fun p hp => (World.ownsRow.lt HO.out p hp).1); have HO2 := Lib.hid hown; clear hown hgrow hlie hglt))
          go_roundw
          case rel => exact ⟨k + 1, by omega, by go_num, by rw [HSN.out, if_neg (by decide), List.length_append, List.flatMap_append, ← HC.out]; simpa using HO2.out, HB2.out⟩
          case measure => simp [intOf]; omega
        · obtain rfl : q = true := hq
          go_wp2_with fail
          refine (CU.out _).mono ?_
          rintro e w1 ⟨rfl, rfl⟩
          go_wp2_with fail
          go_roundw
          case rel => exact ⟨k + 1, by omega, by go_num, by rw [HSN.out]; (first | rw [if_pos rfl, ← HC.out] | rw [if_pos trivial, ← HC.out]); exact HO.out.alloc _, HB.out.alloc hbs _⟩
          case measure => simp [intOf]; omega
      · obtain rfl : q = true := hq
        go_wp2_with fail
        go_roundw
        case rel => exact ⟨k + 1, by omega, by go_num, by rw [HSN.out]; (first | rw [if_pos rfl, ← HC.out] | rw [if_pos trivial, ← HC.out]); exact HO.out.alloc _, HB.out.alloc hbs _⟩
        case measure => simp [intOf]; omega
    · obtain rfl : k = n := by omega
      have e : l.take k = l := List.take_of_length_le (by rw [← HN.out]; omega)
      rw [e] at hown
      have HO := Lib.hid hown
      have HB := Lib.hid hb
      clear hown hb
      rw [e] at hll ⊢
      clear e
      go_wp2_with fail
      go_ret
      exact ⟨_, rfl, HO.out, HB.out⟩

/-! ### one file -/
def fstS (x : It) : ByteArray := if L x.s = [] then x.p else x.s
def oneB (x y : It) : Bool := (x.k == 1) && (y.k == 1) && ((fstS x).toList == (fstS y).toList)
theorem name_it (x : It) (w : World) : Calls Tryd.prog 39 #[itV x] w fun e w' => e = .returned (.string (fstS x)) ∧ Below w.heap.size w w' := by
  obtain ⟨p, k, m, d, s⟩ := x
  unfold itV fstS
  simp only []
  by_cases h0 : L s = []
  · have e1 := nil_empty h0
    rw [if_pos h0]
    clear h0
    go_enter Tryd.func39, Tryd.ntmps39
    go_wp2
    go_ret
    exact ⟨rfl, by go_grown⟩
  · have e1 := ne_empty h0
    rw [if_neg h0]
    clear h0
    go_enter Tryd.func39, Tryd.ntmps39
    go_wp2
    go_ret
    exact ⟨rfl, by go_grown⟩
theorem first_it (x : It) (w : World) : Calls Tryd.prog 32 #[itV x] w fun e w' => e = .returned (.string (fstS x)) ∧ Below w.heap.size w w' := by
  obtain ⟨p, k, m, d, s⟩ := x
  unfold itV fstS
  simp only []
  by_cases h0 : L s = []
  · have e1 := nil_empty h0
    rw [if_pos h0]
    clear h0
    go_enter Tryd.func32, Tryd.ntmps32
    go_wp2
    go_ret
    exact ⟨rfl, by go_grown⟩
  · have e1 := ne_empty h0
    rw [if_neg h0]
    clear h0
    go_enter Tryd.func32, Tryd.ntmps32
    go_wp2
    go_ret
    exact ⟨rfl, by go_grown⟩

set_option maxHeartbeats 1000000 in
theorem one_any (l : List It) (v : Value) (i j : Nat) (x y : It) (w : World) (hl : Tr w w.heap.size v l) (hx : l[i]? = some x) (hy : l[j]? = some y) :
    Calls Tryd.prog 31 #[v, .int .i64 (i : Int), .int .i64 (j : Int)] w fun e w' => e = .returned (.bool (oneB x y)) ∧ Below w.heap.size w w' := by
  obtain ⟨b1, o1, i1, hb1, c1⟩ := it_at hl 23 44 Tryd.underlying23 (by kernel_rfl) hx (i : Int) rfl
  obtain ⟨b2, o2, i2, hb2, d1⟩ := it_at hl 23 44 Tryd.underlying23 (by kernel_rfl) hy (j : Int) rfl
  obtain ⟨c2, c3, c4, c5, c6⟩ := c1
  obtain ⟨d2, d3, d4, d5, d6⟩ := d1
  obtain ⟨r, hr⟩ : ∃ r, r = oneB x y := ⟨_, rfl⟩
  rw [← hr]
  have CX : Hid (∀ (W : World) d os, Calls Tryd.prog 39 #[itV x] (Sort.grow (redrawn W d) os) fun e w'' => e = .returned (.string (fstS x)) ∧ ∃ q : Regrown, w'' = Sort.grow (redrawn W q.d) q.os) := Lib.hid fun W d os => Calls.regrown_of (name_it x _)
  have CY : Hid (∀ (W : World) d os, Calls Tryd.prog 39 #[itV y] (Sort.grow (redrawn W d) os) fun e w'' => e = .returned (.string (fstS y)) ∧ ∃ q : Regrown, w'' = Sort.grow (redrawn W q.d) q.os) := Lib.hid fun W d os => Calls.regrown_of (name_it y _)
  obtain ⟨nx, hnx⟩ : ∃ n, n = fstS x := ⟨_, rfl⟩
  obtain ⟨ny, hny⟩ : ∃ n, n = fstS y := ⟨_, rfl⟩
  unfold oneB at hr
  rw [← hnx, ← hny] at hr
  rw [← hnx] at CX
  rw [← hny] at CY
  obtain ⟨xp, xk, xm, xd, xs⟩ := x
  obtain ⟨yp, yk, ym, yd, ys⟩ := y
  simp only [] at hr c2 c3 c4 c5 c6 d2 d3 d4 d5 d6
  unfold itV at CX CY
  clear hl hx hy hnx hny
  by_cases h1 : xk = 1
  · subst h1
    by_cases h2 : yk = 1
    · subst h2
      replace hr : r = (nx.toList == ny.toList) := hr
      subst hr
      go_enter Tryd.func31, Tryd.ntmps31
      go_wp2_with fail
      go_region_held3 (fun w' => w'.cell? ⟨b1, o1, none⟩ = some (.string xp) ∧ w'.cell? ⟨b1, o1 + 1, none⟩ = some (.int .i64 1) ∧ w'.cell? ⟨b1, o1 + 2, none⟩ = some (.int .i64 xm) ∧ w'.cell? ⟨b1, o1 + 3, none⟩ = some (.string xd) ∧ w'.cell? ⟨b1, o1 + 4, none⟩ = some (.string xs) ∧ w'.cell? ⟨b2, o2, none⟩ = some (.string yp) ∧ w'.cell? ⟨b2, o2 + 1, none⟩ = some (.int .i64 1) ∧ w'.cell? ⟨b2, o2 + 2, none⟩ = some (.int .i64 ym) ∧ w'.cell? ⟨b2, o2 + 3, none⟩ = some (.string yd) ∧ w'.cell? ⟨b2, o2 + 4, none⟩ = some (.string ys)) (go_keep) (fail)
      all_goals
        go_wp2_with fail
        first
          | (
              generalize hW1 : ((w.alloc (.cells #[.string xp, .int .i64 1, .int .i64 xm, .string xd, .string xs] 44)).alloc (.cells #[.string yp, .int .i64 1, .int .i64 ym, .string yd, .string ys] 44)).drew = W1
              have HW1 : Hid (Below w.heap.size w W1) := Lib.hid (by rw [← hW1]; go_grown)
              have q0 : ∀ d os, (Sort.grow (redrawn W1 d) os).cell? ⟨w.heap.size, 0, none⟩ = some (.string xp) := fun d os => cell_regrown (by rw [← hW1]; simp) d os
              have q1 : ∀ d os, (Sort.grow (redrawn W1 d) os).cell? ⟨w.heap.size, 1, none⟩ = some (.int .i64 1) := fun d os => cell_regrown (by rw [← hW1]; simp) d os
              have q2 : ∀ d os, (Sort.grow (redrawn W1 d) os).cell? ⟨w.heap.size, 2, none⟩ = some (.int .i64 xm) := fun d os => cell_regrown (by rw [← hW1]; simp) d os
              have q3 : ∀ d os, (Sort.grow (redrawn W1 d) os).cell? ⟨w.heap.size, 3, none⟩ = some (.string xd) := fun d os => cell_regrown (by rw [← hW1]; simp) d os
              have q4 : ∀ d os, (Sort.grow (redrawn W1 d) os).cell? ⟨w.heap.size, 4, none⟩ = some (.string xs) := fun d os => cell_regrown (by rw [← hW1]; simp) d os
              have q5 : ∀ d os, (Sort.grow (redrawn W1 d) os).cell? ⟨w.heap.size + 1, 0, none⟩ = some (.string yp) := fun d os => cell_regrown (by rw [← hW1]; simp) d os
              have q6 : ∀ d os, (Sort.grow (redrawn W1 d) os).cell? ⟨w.heap.size + 1, 1, none⟩ = some (.int .i64 1) := fun d os => cell_regrown (by rw [← hW1]; simp) d os
              have q7 : ∀ d os, (Sort.grow (redrawn W1 d) os).cell? ⟨w.heap.size + 1, 2, none⟩ = some (.int .i64 ym) := fun d os => cell_regrown (by rw [← hW1]; simp) d os
              have q8 : ∀ d os, (Sort.grow (redrawn W1 d) os).cell? ⟨w.heap.size + 1, 3, none⟩ = some (.string yd) := fun d os => cell_regrown (by rw [← hW1]; simp) d os
              have q9 : ∀ d os, (Sort.grow (redrawn W1 d) os).cell? ⟨w.heap.size + 1, 4, none⟩ = some (.string ys) := fun d os => cell_regrown (by rw [← hW1]; simp) d os
              clear hW1
              refine wp_region_quiet_below (by kernel_rfl) (by kernel_rfl) ?_
              repeat (go_big_quiet_step (with_reducible first | exact CX.out _ _ _ | exact CY.out _ _ _))
              refine wpQuiet_nil ?_
              intro _ hw'
              obtain ⟨⟨dq, osq⟩, hw''⟩ := hw'
              subst hw''
              go_wp2
              go_ret
              exact ⟨rfl, HW1.out.trans ((below_regrown _ dq osq).mono HW1.out.size)⟩)
          | (
              generalize hW1 : ((w.alloc (.cells #[.string yp, .int .i64 1, .int .i64 ym, .string yd, .string ys] 44)).alloc (.cells #[.string xp, .int .i64 1, .int .i64 xm, .string xd, .string xs] 44)).drew = W1
              have HW1 : Hid (Below w.heap.size w W1) := Lib.hid (by rw [← hW1]; go_grown)
              have q0 : ∀ d os, (Sort.grow (redrawn W1 d) os).cell? ⟨w.heap.size, 0, none⟩ = some (.string yp) := fun d os => cell_regrown (by rw [← hW1]; simp) d os
              have q1 : ∀ d os, (Sort.grow (redrawn W1 d) os).cell? ⟨w.heap.size, 1, none⟩ = some (.int .i64 1) := fun d os => cell_regrown (by rw [← hW1]; simp) d os
              have q2 : ∀ d os, (Sort.grow (redrawn W1 d) os).cell? ⟨w.heap.size, 2, none⟩ = some (.int .i64 ym) := fun d os => cell_regrown (by rw [← hW1]; simp) d os
              have q3 : ∀ d os, (Sort.grow (redrawn W1 d) os).cell? ⟨w.heap.size, 3, none⟩ = some (.string yd) := fun d os => cell_regrown (by rw [← hW1]; simp) d os
              have q4 : ∀ d os, (Sort.grow (redrawn W1 d) os).cell? ⟨w.heap.size, 4, none⟩ = some (.string ys) := fun d os => cell_regrown (by rw [← hW1]; simp) d os
              have q5 : ∀ d os, (Sort.grow (redrawn W1 d) os).cell? ⟨w.heap.size + 1, 0, none⟩ = some (.string xp) := fun d os => cell_regrown (by rw [← hW1]; simp) d os
              have q6 : ∀ d os, (Sort.grow (redrawn W1 d) os).cell? ⟨w.heap.size + 1, 1, none⟩ = some (.int .i64 1) := fun d os => cell_regrown (by rw [← hW1]; simp) d os
              have q7 : ∀ d os, (Sort.grow (redrawn W1 d) os).cell? ⟨w.heap.size + 1, 2, none⟩ = some (.int .i64 xm) := fun d os => cell_regrown (by rw [← hW1]; simp) d os
              have q8 : ∀ d os, (Sort.grow (redrawn W1 d) os).cell? ⟨w.heap.size + 1, 3, none⟩ = some (.string xd) := fun d os => cell_regrown (by rw [← hW1]; simp) d os
              have q9 : ∀ d os, (Sort.grow (redrawn W1 d) os).cell? ⟨w.heap.size + 1, 4, none⟩ = some (.string xs) := fun d os => cell_regrown (by rw [← hW1]; simp) d os
              clear hW1
              refine wp_region_quiet_below (by kernel_rfl) (by kernel_rfl) ?_
              repeat (go_big_quiet_step (with_reducible first | exact CX.out _ _ _ | exact CY.out _ _ _))
              refine wpQuiet_nil ?_
              intro _ hw'
              obtain ⟨⟨dq, osq⟩, hw''⟩ := hw'
              subst hw''
              go_wp2
              go_ret
              exact ⟨rfl, HW1.out.trans ((below_regrown _ dq osq).mono HW1.out.size)⟩)
    · have e2 : (yk != 1) = true := by simpa using h2
      obtain rfl : r = false := by rw [hr, show (yk == 1) = false by simpa using h2]; simp
      clear hr h2
      go_enter Tryd.func31, Tryd.ntmps31
      go_wp2_with fail
      go_region_held3 (fun w' => w'.cell? ⟨b1, o1, none⟩ = some (.string xp) ∧ w'.cell? ⟨b1, o1 + 1, none⟩ = some (.int .i64 1) ∧ w'.cell? ⟨b1, o1 + 2, none⟩ = some (.int .i64 xm) ∧ w'.cell? ⟨b1, o1 + 3, none⟩ = some (.string xd) ∧ w'.cell? ⟨b1, o1 + 4, none⟩ = some (.string xs) ∧ w'.cell? ⟨b2, o2, none⟩ = some (.string yp) ∧ w'.cell? ⟨b2, o2 + 1, none⟩ = some (.int .i64 yk) ∧ w'.cell? ⟨b2, o2 + 2, none⟩ = some (.int .i64 ym) ∧ w'.cell? ⟨b2, o2 + 3, none⟩ = some (.string yd) ∧ w'.cell? ⟨b2, o2 + 4, none⟩ = some (.string ys)) (go_keep) (fail)
      all_goals
        go_wp2
        go_ret
        exact ⟨rfl, by go_grown⟩
  · have e1 : (xk != 1) = true := by simpa using h1
    obtain rfl : r = false := by rw [hr, show (xk == 1) = false by simpa using h1]; simp
    clear hr h1
    go_enter Tryd.func31, Tryd.ntmps31
    go_wp2_with fail
    go_region_held3 (fun w' => w'.cell? ⟨b1, o1, none⟩ = some (.string xp) ∧ w'.cell? ⟨b1, o1 + 1, none⟩ = some (.int .i64 xk) ∧ w'.cell? ⟨b1, o1 + 2, none⟩ = some (.int .i64 xm) ∧ w'.cell? ⟨b1, o1 + 3, none⟩ = some (.string xd) ∧ w'.cell? ⟨b1, o1 + 4, none⟩ = some (.string xs) ∧ w'.cell? ⟨b2, o2, none⟩ = some (.string yp) ∧ w'.cell? ⟨b2, o2 + 1, none⟩ = some (.int .i64 yk) ∧ w'.cell? ⟨b2, o2 + 2, none⟩ = some (.int .i64 ym) ∧ w'.cell? ⟨b2, o2 + 3, none⟩ = some (.string yd) ∧ w'.cell? ⟨b2, o2 + 4, none⟩ = some (.string ys)) (go_keep) (fail)
    all_goals
      go_wp2
      go_ret
      exact ⟨rfl, by go_grown⟩
end Go.Proofs.YtdelgbkllnccoaaDoor
