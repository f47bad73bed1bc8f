/-
  The walk of the document's word on an item by itself.
-/
import Derived.Test.YtdelgbkllnccoaaDoorT3
namespace Go.Proofs.YtdelgbkllnccoaaDoor
open Go.RowKit

set_option maxHeartbeats 1000000 in
theorem alone_any (x : It) (w : World) (hp : x.p.size ≤ 100000) (hd : x.d.size ≤ maxLen) :
    Calls Tryd.prog 27 #[itV x] w fun e w' => e = .returned (.int .i64 (aloneE x)) ∧ Below w.heap.size w w' := by
  obtain ⟨p, k, m, d, s⟩ := x
  have CP : Hid (∀ W, Calls Tryd.prog 35 #[.string p] W fun e w' => e = .returned (.bool (plainB p)) ∧ Below W.heap.size W w') := Lib.hid fun W => refPlain_any p W hp
  have CR := Lib.hid (fun w => refRight_any d w hd)
  unfold maxLen at hd
  simp only [] at hp hd
  obtain ⟨r, hr⟩ : ∃ r, r = aloneE ⟨p, k, m, d, s⟩ := ⟨_, rfl⟩
  rw [← hr]
  rw [aloneE] at hr
  simp only [] at hr
  unfold itV
  cases hpl : plainB p with
  | false =>
    rw [hpl] at CP hr
    rw [if_pos rfl] at hr
    subst hr
    clear CR
    go_enter Tryd.func27, Tryd.ntmps27
    go_wp2_with fail
    refine (CP.out _).mono ?_
    rintro e w1 ⟨rfl, hb1⟩
    have hs1 : w.heap.size < w1.heap.size := by have := hb1.size; simp at this; omega
    have c0 : w1.cell? ⟨w.heap.size, 0, none⟩ = some (.string _) := (hb1.cell (by simp)).trans (by simp; rfl)
    have c1 : w1.cell? ⟨w.heap.size, 1, none⟩ = some (.int .i64 _) := (hb1.cell (by simp)).trans (by simp; rfl)
    have c2 : w1.cell? ⟨w.heap.size, 2, none⟩ = some (.int .i64 _) := (hb1.cell (by simp)).trans (by simp; rfl)
    have c3 : w1.cell? ⟨w.heap.size, 3, none⟩ = some (.string _) := (hb1.cell (by simp)).trans (by simp; rfl)
    have c4 : w1.cell? ⟨w.heap.size, 4, none⟩ = some (.string _) := (hb1.cell (by simp)).trans (by simp; rfl)
    have HB1 : Hid (Below w.heap.size w w1) := Lib.hid ((Below.alloc (Below.refl _ _) (Nat.le_refl _) _).trans (hb1.mono (by simp)))
    clear hb1
    go_wp2
    go_ret
    exact ⟨rfl, HB1.out⟩
  | true =>
    rw [hpl] at CP hr
    rw [if_neg (by decide)] at hr
    by_cases k1 : k < 1
    · rw [if_pos (.inl k1)] at hr
      subst hr
      clear CR
      go_enter Tryd.func27, Tryd.ntmps27
      go_wp2_with fail
      refine (CP.out _).mono ?_
      rintro e w1 ⟨rfl, hb1⟩
      have hs1 : w.heap.size < w1.heap.size := by have := hb1.size; simp at this; omega
      have c0 : w1.cell? ⟨w.heap.size, 0, none⟩ = some (.string _) := (hb1.cell (by simp)).trans (by simp; rfl)
      have c1 : w1.cell? ⟨w.heap.size, 1, none⟩ = some (.int .i64 _) := (hb1.cell (by simp)).trans (by simp; rfl)
      have c2 : w1.cell? ⟨w.heap.size, 2, none⟩ = some (.int .i64 _) := (hb1.cell (by simp)).trans (by simp; rfl)
      have c3 : w1.cell? ⟨w.heap.size, 3, none⟩ = some (.string _) := (hb1.cell (by simp)).trans (by simp; rfl)
      have c4 : w1.cell? ⟨w.heap.size, 4, none⟩ = some (.string _) := (hb1.cell (by simp)).trans (by simp; rfl)
      have HB1 : Hid (Below w.heap.size w w1) := Lib.hid ((Below.alloc (Below.refl _ _) (Nat.le_refl _) _).trans (hb1.mono (by simp)))
      clear hb1
      go_wp2
      go_ret
      exact ⟨rfl, HB1.out⟩
    · by_cases k2 : 3 < k
      · rw [if_pos (.inr k2)] at hr
        subst hr
        clear CR
        go_enter Tryd.func27, Tryd.ntmps27
        go_wp2_with fail
        refine (CP.out _).mono ?_
        rintro e w1 ⟨rfl, hb1⟩
        have hs1 : w.heap.size < w1.heap.size := by have := hb1.size; simp at this; omega
        have c0 : w1.cell? ⟨w.heap.size, 0, none⟩ = some (.string _) := (hb1.cell (by simp)).trans (by simp; rfl)
        have c1 : w1.cell? ⟨w.heap.size, 1, none⟩ = some (.int .i64 _) := (hb1.cell (by simp)).trans (by simp; rfl)
        have c2 : w1.cell? ⟨w.heap.size, 2, none⟩ = some (.int .i64 _) := (hb1.cell (by simp)).trans (by simp; rfl)
        have c3 : w1.cell? ⟨w.heap.size, 3, none⟩ = some (.string _) := (hb1.cell (by simp)).trans (by simp; rfl)
        have c4 : w1.cell? ⟨w.heap.size, 4, none⟩ = some (.string _) := (hb1.cell (by simp)).trans (by simp; rfl)
        have HB1 : Hid (Below w.heap.size w w1) := Lib.hid ((Below.alloc (Below.refl _ _) (Nat.le_refl _) _).trans (hb1.mono (by simp)))
        clear hb1
        go_wp2
        go_ret
        exact ⟨rfl, HB1.out⟩
      · rw [if_neg (by omega)] at hr
        by_cases m0 : m < 0
        · rw [if_pos (.inl m0)] at hr
          subst hr
          clear CR
          go_enter Tryd.func27, Tryd.ntmps27
          go_wp2_with fail
          refine (CP.out _).mono ?_
          rintro e w1 ⟨rfl, hb1⟩
          have hs1 : w.heap.size < w1.heap.size := by have := hb1.size; simp at this; omega
          have c0 : w1.cell? ⟨w.heap.size, 0, none⟩ = some (.string _) := (hb1.cell (by simp)).trans (by simp; rfl)
          have c1 : w1.cell? ⟨w.heap.size, 1, none⟩ = some (.int .i64 _) := (hb1.cell (by simp)).trans (by simp; rfl)
          have c2 : w1.cell? ⟨w.heap.size, 2, none⟩ = some (.int .i64 _) := (hb1.cell (by simp)).trans (by simp; rfl)
          have c3 : w1.cell? ⟨w.heap.size, 3, none⟩ = some (.string _) := (hb1.cell (by simp)).trans (by simp; rfl)
          have c4 : w1.cell? ⟨w.heap.size, 4, none⟩ = some (.string _) := (hb1.cell (by simp)).trans (by simp; rfl)
          have HB1 : Hid (Below w.heap.size w w1) := Lib.hid ((Below.alloc (Below.refl _ _) (Nat.le_refl _) _).trans (hb1.mono (by simp)))
          clear hb1
          go_wp2
          go_ret
          exact ⟨rfl, HB1.out⟩
        · by_cases m1 : 4095 < m
          · rw [if_pos (.inr (.inl m1))] at hr
            subst hr
            clear CR
            go_enter Tryd.func27, Tryd.ntmps27
            go_wp2_with fail
            refine (CP.out _).mono ?_
            rintro e w1 ⟨rfl, hb1⟩
            have hs1 : w.heap.size < w1.heap.size := by have := hb1.size; simp at this; omega
            have c0 : w1.cell? ⟨w.heap.size, 0, none⟩ = some (.string _) := (hb1.cell (by simp)).trans (by simp; rfl)
            have c1 : w1.cell? ⟨w.heap.size, 1, none⟩ = some (.int .i64 _) := (hb1.cell (by simp)).trans (by simp; rfl)
            have c2 : w1.cell? ⟨w.heap.size, 2, none⟩ = some (.int .i64 _) := (hb1.cell (by simp)).trans (by simp; rfl)
            have c3 : w1.cell? ⟨w.heap.size, 3, none⟩ = some (.string _) := (hb1.cell (by simp)).trans (by simp; rfl)
            have c4 : w1.cell? ⟨w.heap.size, 4, none⟩ = some (.string _) := (hb1.cell (by simp)).trans (by simp; rfl)
            have HB1 : Hid (Below w.heap.size w w1) := Lib.hid ((Below.alloc (Below.refl _ _) (Nat.le_refl _) _).trans (hb1.mono (by simp)))
            clear hb1
            go_wp2
            go_ret
            exact ⟨rfl, HB1.out⟩
          · by_cases k3 : k = 3
            · subst k3
              by_cases m2 : m = 511
              · subst m2
                rw [if_neg (by omega)] at hr
                clear hpl
                by_cases h2 : L s = []
                · have e2 := nil_empty h2
                  by_cases h1 : 4095 < d.size
                  · replace hr : r = 18 := by rw [hr]; simp [bodyE, h1, h2]
                    clear h2 CR
                    have HR := Lib.hid hr
                    clear hr
                    go_enter Tryd.func27, Tryd.ntmps27
                    go_wp2_with fail
                    refine (CP.out _).mono ?_
                    rintro e w1 ⟨rfl, hb1⟩
                    have hs1 : w.heap.size < w1.heap.size := by have := hb1.size; simp at this; omega
                    have c0 : w1.cell? ⟨w.heap.size, 0, none⟩ = some (.string _) := (hb1.cell (by simp)).trans (by simp; rfl)
                    have c1 : w1.cell? ⟨w.heap.size, 1, none⟩ = some (.int .i64 _) := (hb1.cell (by simp)).trans (by simp; rfl)
                    have c2 : w1.cell? ⟨w.heap.size, 2, none⟩ = some (.int .i64 _) := (hb1.cell (by simp)).trans (by simp; rfl)
                    have c3 : w1.cell? ⟨w.heap.size, 3, none⟩ = some (.string _) := (hb1.cell (by simp)).trans (by simp; rfl)
                    have c4 : w1.cell? ⟨w.heap.size, 4, none⟩ = some (.string _) := (hb1.cell (by simp)).trans (by simp; rfl)
                    have HB1 : Hid (Below w.heap.size w w1) := Lib.hid ((Below.alloc (Below.refl _ _) (Nat.le_refl _) _).trans (hb1.mono (by simp)))
                    clear hb1
                    go_wp2
                    go_ret
                    exact ⟨ret_int HR.out.symm, HB1.out⟩
                  · cases hrr : rightB (L d) with
                    | true =>
                      rw [hrr] at CR
                      replace hr : r = 0 := by rw [hr]; simp [bodyE, h1, h2, hrr]
                      clear h2 hrr
                      have HR := Lib.hid hr
                      clear hr
                      go_enter Tryd.func27, Tryd.ntmps27
                      go_wp2_with fail
                      refine (CP.out _).mono ?_
                      rintro e w1 ⟨rfl, hb1⟩
                      have hs1 : w.heap.size < w1.heap.size := by have := hb1.size; simp at this; omega
                      have c0 : w1.cell? ⟨w.heap.size, 0, none⟩ = some (.string _) := (hb1.cell (by simp)).trans (by simp; rfl)
                      have c1 : w1.cell? ⟨w.heap.size, 1, none⟩ = some (.int .i64 _) := (hb1.cell (by simp)).trans (by simp; rfl)
                      have c2 : w1.cell? ⟨w.heap.size, 2, none⟩ = some (.int .i64 _) := (hb1.cell (by simp)).trans (by simp; rfl)
                      have c3 : w1.cell? ⟨w.heap.size, 3, none⟩ = some (.string _) := (hb1.cell (by simp)).trans (by simp; rfl)
                      have c4 : w1.cell? ⟨w.heap.size, 4, none⟩ = some (.string _) := (hb1.cell (by simp)).trans (by simp; rfl)
                      have HB1 : Hid (Below w.heap.size w w1) := Lib.hid ((Below.alloc (Below.refl _ _) (Nat.le_refl _) _).trans (hb1.mono (by simp)))
                      clear hb1
                      go_wp2_with fail
                      refine (CR.out _).mono ?_
                      rintro e w2 ⟨rfl, rfl⟩
                      go_wp2
                      go_ret
                      exact ⟨ret_int HR.out.symm, HB1.out⟩
                    | false =>
                      rw [hrr] at CR
                      replace hr : r = 11 := by rw [hr]; simp [bodyE, h1, h2, hrr]
                      clear h2 hrr
                      have HR := Lib.hid hr
                      clear hr
                      go_enter Tryd.func27, Tryd.ntmps27
                      go_wp2_with fail
                      refine (CP.out _).mono ?_
                      rintro e w1 ⟨rfl, hb1⟩
                      have hs1 : w.heap.size < w1.heap.size := by have := hb1.size; simp at this; omega
                      have c0 : w1.cell? ⟨w.heap.size, 0, none⟩ = some (.string _) := (hb1.cell (by simp)).trans (by simp; rfl)
                      have c1 : w1.cell? ⟨w.heap.size, 1, none⟩ = some (.int .i64 _) := (hb1.cell (by simp)).trans (by simp; rfl)
                      have c2 : w1.cell? ⟨w.heap.size, 2, none⟩ = some (.int .i64 _) := (hb1.cell (by simp)).trans (by simp; rfl)
                      have c3 : w1.cell? ⟨w.heap.size, 3, none⟩ = some (.string _) := (hb1.cell (by simp)).trans (by simp; rfl)
                      have c4 : w1.cell? ⟨w.heap.size, 4, none⟩ = some (.string _) := (hb1.cell (by simp)).trans (by simp; rfl)
                      have HB1 : Hid (Below w.heap.size w w1) := Lib.hid ((Below.alloc (Below.refl _ _) (Nat.le_refl _) _).trans (hb1.mono (by simp)))
                      clear hb1
                      go_wp2_with fail
                      refine (CR.out _).mono ?_
                      rintro e w2 ⟨rfl, rfl⟩
                      go_wp2
                      go_ret
                      exact ⟨ret_int HR.out.symm, HB1.out⟩
                · have e2 := ne_empty h2
                  replace hr : r = 43 := by rw [hr]; simp [bodyE, h2]
                  clear h2 CR
                  have HR := Lib.hid hr
                  clear hr
                  go_enter Tryd.func27, Tryd.ntmps27
                  go_wp2_with fail
                  refine (CP.out _).mono ?_
                  rintro e w1 ⟨rfl, hb1⟩
                  have hs1 : w.heap.size < w1.heap.size := by have := hb1.size; simp at this; omega
                  have c0 : w1.cell? ⟨w.heap.size, 0, none⟩ = some (.string _) := (hb1.cell (by simp)).trans (by simp; rfl)
                  have c1 : w1.cell? ⟨w.heap.size, 1, none⟩ = some (.int .i64 _) := (hb1.cell (by simp)).trans (by simp; rfl)
                  have c2 : w1.cell? ⟨w.heap.size, 2, none⟩ = some (.int .i64 _) := (hb1.cell (by simp)).trans (by simp; rfl)
                  have c3 : w1.cell? ⟨w.heap.size, 3, none⟩ = some (.string _) := (hb1.cell (by simp)).trans (by simp; rfl)
                  have c4 : w1.cell? ⟨w.heap.size, 4, none⟩ = some (.string _) := (hb1.cell (by simp)).trans (by simp; rfl)
                  have HB1 : Hid (Below w.heap.size w w1) := Lib.hid ((Below.alloc (Below.refl _ _) (Nat.le_refl _) _).trans (hb1.mono (by simp)))
                  clear hb1
                  go_wp2
                  go_ret
                  exact ⟨ret_int HR.out.symm, HB1.out⟩
              · rw [if_pos (by omega)] at hr
                have e2 : (m != 511) = true := by simpa using m2
                clear CR hpl m2
                subst hr
                go_enter Tryd.func27, Tryd.ntmps27
                go_wp2_with fail
                refine (CP.out _).mono ?_
                rintro e w1 ⟨rfl, hb1⟩
                have hs1 : w.heap.size < w1.heap.size := by have := hb1.size; simp at this; omega
                have c0 : w1.cell? ⟨w.heap.size, 0, none⟩ = some (.string _) := (hb1.cell (by simp)).trans (by simp; rfl)
                have c1 : w1.cell? ⟨w.heap.size, 1, none⟩ = some (.int .i64 _) := (hb1.cell (by simp)).trans (by simp; rfl)
                have c2 : w1.cell? ⟨w.heap.size, 2, none⟩ = some (.int .i64 _) := (hb1.cell (by simp)).trans (by simp; rfl)
                have c3 : w1.cell? ⟨w.heap.size, 3, none⟩ = some (.string _) := (hb1.cell (by simp)).trans (by simp; rfl)
                have c4 : w1.cell? ⟨w.heap.size, 4, none⟩ = some (.string _) := (hb1.cell (by simp)).trans (by simp; rfl)
                have HB1 : Hid (Below w.heap.size w w1) := Lib.hid ((Below.alloc (Below.refl _ _) (Nat.le_refl _) _).trans (hb1.mono (by simp)))
                clear hb1
                go_wp2
                go_ret
                exact ⟨rfl, HB1.out⟩
            · rw [if_neg (by omega)] at hr
              clear hpl
              by_cases kk1 : k = 1
              · subst kk1
                clear k3
                by_cases h1 : 4194304 < d.size
                · replace hr : r = 18 := by rw [hr]; simp [bodyE, h1]
                  clear CR
                  have HR := Lib.hid hr
                  clear hr
                  go_enter Tryd.func27, Tryd.ntmps27
                  go_wp2_with fail
                  refine (CP.out _).mono ?_
                  rintro e w1 ⟨rfl, hb1⟩
                  have hs1 : w.heap.size < w1.heap.size := by have := hb1.size; simp at this; omega
                  have c0 : w1.cell? ⟨w.heap.size, 0, none⟩ = some (.string _) := (hb1.cell (by simp)).trans (by simp; rfl)
                  have c1 : w1.cell? ⟨w.heap.size, 1, none⟩ = some (.int .i64 _) := (hb1.cell (by simp)).trans (by simp; rfl)
                  have c2 : w1.cell? ⟨w.heap.size, 2, none⟩ = some (.int .i64 _) := (hb1.cell (by simp)).trans (by simp; rfl)
                  have c3 : w1.cell? ⟨w.heap.size, 3, none⟩ = some (.string _) := (hb1.cell (by simp)).trans (by simp; rfl)
                  have c4 : w1.cell? ⟨w.heap.size, 4, none⟩ = some (.string _) := (hb1.cell (by simp)).trans (by simp; rfl)
                  have HB1 : Hid (Below w.heap.size w w1) := Lib.hid ((Below.alloc (Below.refl _ _) (Nat.le_refl _) _).trans (hb1.mono (by simp)))
                  clear hb1
                  go_wp2
                  go_ret
                  exact ⟨ret_int HR.out.symm, HB1.out⟩
                · replace hr : r = 0 := by rw [hr]; simp [bodyE, h1]
                  clear CR
                  have HR := Lib.hid hr
                  clear hr
                  go_enter Tryd.func27, Tryd.ntmps27
                  go_wp2_with fail
                  refine (CP.out _).mono ?_
                  rintro e w1 ⟨rfl, hb1⟩
                  have hs1 : w.heap.size < w1.heap.size := by have := hb1.size; simp at this; omega
                  have c0 : w1.cell? ⟨w.heap.size, 0, none⟩ = some (.string _) := (hb1.cell (by simp)).trans (by simp; rfl)
                  have c1 : w1.cell? ⟨w.heap.size, 1, none⟩ = some (.int .i64 _) := (hb1.cell (by simp)).trans (by simp; rfl)
                  have c2 : w1.cell? ⟨w.heap.size, 2, none⟩ = some (.int .i64 _) := (hb1.cell (by simp)).trans (by simp; rfl)
                  have c3 : w1.cell? ⟨w.heap.size, 3, none⟩ = some (.string _) := (hb1.cell (by simp)).trans (by simp; rfl)
                  have c4 : w1.cell? ⟨w.heap.size, 4, none⟩ = some (.string _) := (hb1.cell (by simp)).trans (by simp; rfl)
                  have HB1 : Hid (Below w.heap.size w w1) := Lib.hid ((Below.alloc (Below.refl _ _) (Nat.le_refl _) _).trans (hb1.mono (by simp)))
                  clear hb1
                  go_wp2
                  go_ret
                  exact ⟨ret_int HR.out.symm, HB1.out⟩
              · obtain rfl : k = 2 := by omega
                clear kk1 k3
                by_cases h1 : L d = []
                · have e1 := nil_empty h1
                  by_cases h2 : L s = []
                  · have e2 := nil_empty h2
                    replace hr : r = 0 := by rw [hr]; simp [bodyE, h1, h2]
                    clear CR h1 h2
                    have HR := Lib.hid hr
                    clear hr
                    go_enter Tryd.func27, Tryd.ntmps27
                    go_wp2_with fail
                    refine (CP.out _).mono ?_
                    rintro e w1 ⟨rfl, hb1⟩
                    have hs1 : w.heap.size < w1.heap.size := by have := hb1.size; simp at this; omega
                    have c0 : w1.cell? ⟨w.heap.size, 0, none⟩ = some (.string _) := (hb1.cell (by simp)).trans (by simp; rfl)
                    have c1 : w1.cell? ⟨w.heap.size, 1, none⟩ = some (.int .i64 _) := (hb1.cell (by simp)).trans (by simp; rfl)
                    have c2 : w1.cell? ⟨w.heap.size, 2, none⟩ = some (.int .i64 _) := (hb1.cell (by simp)).trans (by simp; rfl)
                    have c3 : w1.cell? ⟨w.heap.size, 3, none⟩ = some (.string _) := (hb1.cell (by simp)).trans (by simp; rfl)
                    have c4 : w1.cell? ⟨w.heap.size, 4, none⟩ = some (.string _) := (hb1.cell (by simp)).trans (by simp; rfl)
                    have HB1 : Hid (Below w.heap.size w w1) := Lib.hid ((Below.alloc (Below.refl _ _) (Nat.le_refl _) _).trans (hb1.mono (by simp)))
                    clear hb1
                    go_wp2
                    go_ret
                    exact ⟨ret_int HR.out.symm, HB1.out⟩
                  · have e2 := ne_empty h2
                    replace hr : r = 43 := by rw [hr]; simp [bodyE, h2]
                    clear CR h1 h2
                    have HR := Lib.hid hr
                    clear hr
                    go_enter Tryd.func27, Tryd.ntmps27
                    go_wp2_with fail
                    refine (CP.out _).mono ?_
                    rintro e w1 ⟨rfl, hb1⟩
                    have hs1 : w.heap.size < w1.heap.size := by have := hb1.size; simp at this; omega
                    have c0 : w1.cell? ⟨w.heap.size, 0, none⟩ = some (.string _) := (hb1.cell (by simp)).trans (by simp; rfl)
                    have c1 : w1.cell? ⟨w.heap.size, 1, none⟩ = some (.int .i64 _) := (hb1.cell (by simp)).trans (by simp; rfl)
                    have c2 : w1.cell? ⟨w.heap.size, 2, none⟩ = some (.int .i64 _) := (hb1.cell (by simp)).trans (by simp; rfl)
                    have c3 : w1.cell? ⟨w.heap.size, 3, none⟩ = some (.string _) := (hb1.cell (by simp)).trans (by simp; rfl)
                    have c4 : w1.cell? ⟨w.heap.size, 4, none⟩ = some (.string _) := (hb1.cell (by simp)).trans (by simp; rfl)
                    have HB1 : Hid (Below w.heap.size w w1) := Lib.hid ((Below.alloc (Below.refl _ _) (Nat.le_refl _) _).trans (hb1.mono (by simp)))
                    clear hb1
                    go_wp2
                    go_ret
                    exact ⟨ret_int HR.out.symm, HB1.out⟩
                · have e1 := ne_empty h1
                  replace hr : r = 43 := by rw [hr]; simp [bodyE, h1]
                  clear CR h1
                  have HR := Lib.hid hr
                  clear hr
                  go_enter Tryd.func27, Tryd.ntmps27
                  go_wp2_with fail
                  refine (CP.out _).mono ?_
                  rintro e w1 ⟨rfl, hb1⟩
                  have hs1 : w.heap.size < w1.heap.size := by have := hb1.size; simp at this; omega
                  have c0 : w1.cell? ⟨w.heap.size, 0, none⟩ = some (.string _) := (hb1.cell (by simp)).trans (by simp; rfl)
                  have c1 : w1.cell? ⟨w.heap.size, 1, none⟩ = some (.int .i64 _) := (hb1.cell (by simp)).trans (by simp; rfl)
                  have c2 : w1.cell? ⟨w.heap.size, 2, none⟩ = some (.int .i64 _) := (hb1.cell (by simp)).trans (by simp; rfl)
                  have c3 : w1.cell? ⟨w.heap.size, 3, none⟩ = some (.string _) := (hb1.cell (by simp)).trans (by simp; rfl)
                  have c4 : w1.cell? ⟨w.heap.size, 4, none⟩ = some (.string _) := (hb1.cell (by simp)).trans (by simp; rfl)
                  have HB1 : Hid (Below w.heap.size w w1) := Lib.hid ((Below.alloc (Below.refl _ _) (Nat.le_refl _) _).trans (hb1.mono (by simp)))
                  clear hb1
                  go_wp2
                  go_ret
                  exact ⟨ret_int HR.out.symm, HB1.out⟩
end Go.Proofs.YtdelgbkllnccoaaDoor
