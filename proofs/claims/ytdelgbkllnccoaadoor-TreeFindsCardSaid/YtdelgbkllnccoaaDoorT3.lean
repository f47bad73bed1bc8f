/-
  The walks of shape, and of the document's word on an item by itself.
-/
import Derived.Test.YtdelgbkllnccoaaDoorT2
namespace Go.Proofs.YtdelgbkllnccoaaDoor
open Go.RowKit

theorem shape_any (x : It) (w : World) (hv : Held w) (hp : x.p.size ≤ 100000) (hd : x.d.size ≤ maxLen) :
    Calls Tryd.prog 33 #[itV x] w fun e w' => e = .returned (.int .i64 (aloneE x)) ∧ Below w.heap.size w w' := by
  obtain ⟨p, k, m, d, s⟩ := x
  have CP : Hid (∀ W, Held W → Calls Tryd.prog 40 #[.string p] W fun e w' => e = .returned (.bool (plainB p)) ∧ Below W.heap.size W w') := Lib.hid fun W hW => plain_any p W hp hW
  have CB : Hid (1 ≤ k ∧ k ≤ 3 → ∀ W, Calls Tryd.prog 42 #[itV ⟨p, k, m, d, s⟩] W fun e w' => e = .returned (.int .i64 (bodyE ⟨p, k, m, d, s⟩)) ∧ Below W.heap.size W w') := Lib.hid fun hk W => body_any _ W hk hd
  have CM := Lib.hid (mright_any m)
  obtain ⟨r, hr⟩ : ∃ r, r = aloneE ⟨p, k, m, d, s⟩ := ⟨_, rfl⟩
  rw [← hr]
  rw [aloneE] at hr
  simp only [] at hr
  have hv1 : Held (w.alloc (.cells #[.string p, .int .i64 k, .int .i64 m, .string d, .string s] 44)) := hv.below hv.2 (Below.alloc (Below.refl _ _) (Nat.le_refl _) _)
  have HV := Lib.hid hv1
  clear hv hv1 hd
  unfold itV at CB ⊢
  cases hpl : plainB p with
  | false =>
    rw [hpl] at CP hr
    rw [if_pos rfl] at hr
    subst hr
    clear CB CM
    go_enter Tryd.func33, Tryd.ntmps33
    go_wp2_with fail
    refine (CP.out _ HV.out).mono ?_
    rintro e w1 ⟨rfl, hb1⟩
    have hs1 : w.heap.size < w1.heap.size := by have := hb1.size; simp at this; omega
    have c0 : w1.cell? ⟨w.heap.size, 0, none⟩ = some (.string _) := (hb1.cell (by simp)).trans (by simp; rfl)
    have c1 : w1.cell? ⟨w.heap.size, 1, none⟩ = some (.int .i64 _) := (hb1.cell (by simp)).trans (by simp; rfl)
    have c2 : w1.cell? ⟨w.heap.size, 2, none⟩ = some (.int .i64 _) := (hb1.cell (by simp)).trans (by simp; rfl)
    have c3 : w1.cell? ⟨w.heap.size, 3, none⟩ = some (.string _) := (hb1.cell (by simp)).trans (by simp; rfl)
    have c4 : w1.cell? ⟨w.heap.size, 4, none⟩ = some (.string _) := (hb1.cell (by simp)).trans (by simp; rfl)
    have HB1 : Hid (Below w.heap.size w w1) := Lib.hid ((Below.alloc (Below.refl _ _) (Nat.le_refl _) _).trans (hb1.mono (by simp)))
    clear hb1
    go_wp2
    go_ret
    exact ⟨rfl, HB1.out⟩
  | true =>
    rw [hpl] at CP hr
    rw [if_neg (by decide)] at hr
    by_cases k1 : k < 1
    · rw [if_pos (.inl k1)] at hr
      subst hr
      clear CB CM
      go_enter Tryd.func33, Tryd.ntmps33
      go_wp2_with fail
      refine (CP.out _ HV.out).mono ?_
      rintro e w1 ⟨rfl, hb1⟩
      have hs1 : w.heap.size < w1.heap.size := by have := hb1.size; simp at this; omega
      have c0 : w1.cell? ⟨w.heap.size, 0, none⟩ = some (.string _) := (hb1.cell (by simp)).trans (by simp; rfl)
      have c1 : w1.cell? ⟨w.heap.size, 1, none⟩ = some (.int .i64 _) := (hb1.cell (by simp)).trans (by simp; rfl)
      have c2 : w1.cell? ⟨w.heap.size, 2, none⟩ = some (.int .i64 _) := (hb1.cell (by simp)).trans (by simp; rfl)
      have c3 : w1.cell? ⟨w.heap.size, 3, none⟩ = some (.string _) := (hb1.cell (by simp)).trans (by simp; rfl)
      have c4 : w1.cell? ⟨w.heap.size, 4, none⟩ = some (.string _) := (hb1.cell (by simp)).trans (by simp; rfl)
      have HB1 : Hid (Below w.heap.size w w1) := Lib.hid ((Below.alloc (Below.refl _ _) (Nat.le_refl _) _).trans (hb1.mono (by simp)))
      clear hb1
      go_wp2
      go_ret
      exact ⟨rfl, HB1.out⟩
    · by_cases k2 : 3 < k
      · rw [if_pos (.inr k2)] at hr
        subst hr
        clear CB CM
        go_enter Tryd.func33, Tryd.ntmps33
        go_wp2_with fail
        refine (CP.out _ HV.out).mono ?_
        rintro e w1 ⟨rfl, hb1⟩
        have hs1 : w.heap.size < w1.heap.size := by have := hb1.size; simp at this; omega
        have c0 : w1.cell? ⟨w.heap.size, 0, none⟩ = some (.string _) := (hb1.cell (by simp)).trans (by simp; rfl)
        have c1 : w1.cell? ⟨w.heap.size, 1, none⟩ = some (.int .i64 _) := (hb1.cell (by simp)).trans (by simp; rfl)
        have c2 : w1.cell? ⟨w.heap.size, 2, none⟩ = some (.int .i64 _) := (hb1.cell (by simp)).trans (by simp; rfl)
        have c3 : w1.cell? ⟨w.heap.size, 3, none⟩ = some (.string _) := (hb1.cell (by simp)).trans (by simp; rfl)
        have c4 : w1.cell? ⟨w.heap.size, 4, none⟩ = some (.string _) := (hb1.cell (by simp)).trans (by simp; rfl)
        have HB1 : Hid (Below w.heap.size w w1) := Lib.hid ((Below.alloc (Below.refl _ _) (Nat.le_refl _) _).trans (hb1.mono (by simp)))
        clear hb1
        go_wp2
        go_ret
        exact ⟨rfl, HB1.out⟩
      · rw [if_neg (by omega)] at hr
        by_cases m1 : 0 ≤ m ∧ m ≤ 4095
        · rw [show (decide (0 ≤ m) && decide (m ≤ 4095)) = true by simp [m1]] at CM
          by_cases k3 : k = 3
          · subst k3
            by_cases m2 : m = 511
            · subst m2
              rw [if_neg (by omega)] at hr
              have HR := Lib.hid hr
              have CB2 := Lib.hid (CB.out (by omega))
              clear hr CB hpl
              go_enter Tryd.func33, Tryd.ntmps33
              go_wp2_with fail
              refine (CP.out _ HV.out).mono ?_
              rintro e w1 ⟨rfl, hb1⟩
              have hs1 : w.heap.size < w1.heap.size := by have := hb1.size; simp at this; omega
              have c0 : w1.cell? ⟨w.heap.size, 0, none⟩ = some (.string _) := (hb1.cell (by simp)).trans (by simp; rfl)
              have c1 : w1.cell? ⟨w.heap.size, 1, none⟩ = some (.int .i64 _) := (hb1.cell (by simp)).trans (by simp; rfl)
              have c2 : w1.cell? ⟨w.heap.size, 2, none⟩ = some (.int .i64 _) := (hb1.cell (by simp)).trans (by simp; rfl)
              have c3 : w1.cell? ⟨w.heap.size, 3, none⟩ = some (.string _) := (hb1.cell (by simp)).trans (by simp; rfl)
              have c4 : w1.cell? ⟨w.heap.size, 4, none⟩ = some (.string _) := (hb1.cell (by simp)).trans (by simp; rfl)
              have HB1 : Hid (Below w.heap.size w w1) := Lib.hid ((Below.alloc (Below.refl _ _) (Nat.le_refl _) _).trans (hb1.mono (by simp)))
              clear hb1
              go_wp2_with fail
              refine (CM.out _).mono ?_
              rintro e w2 ⟨rfl, rfl⟩
              go_wp2_with fail
              refine (CB2.out _).mono ?_
              rintro e w3 ⟨rfl, hb3⟩
              go_wp2
              go_ret
              exact ⟨ret_int HR.out.symm, HB1.out.trans (hb3.mono (by omega))⟩
            · rw [if_pos (by omega)] at hr
              have e2 : (m == 511) = false := by simpa using m2
              clear CB hpl m2
              subst hr
              go_enter Tryd.func33, Tryd.ntmps33
              go_wp2_with fail
              refine (CP.out _ HV.out).mono ?_
              rintro e w1 ⟨rfl, hb1⟩
              have hs1 : w.heap.size < w1.heap.size := by have := hb1.size; simp at this; omega
              have c0 : w1.cell? ⟨w.heap.size, 0, none⟩ = some (.string _) := (hb1.cell (by simp)).trans (by simp; rfl)
              have c1 : w1.cell? ⟨w.heap.size, 1, none⟩ = some (.int .i64 _) := (hb1.cell (by simp)).trans (by simp; rfl)
              have c2 : w1.cell? ⟨w.heap.size, 2, none⟩ = some (.int .i64 _) := (hb1.cell (by simp)).trans (by simp; rfl)
              have c3 : w1.cell? ⟨w.heap.size, 3, none⟩ = some (.string _) := (hb1.cell (by simp)).trans (by simp; rfl)
              have c4 : w1.cell? ⟨w.heap.size, 4, none⟩ = some (.string _) := (hb1.cell (by simp)).trans (by simp; rfl)
              have HB1 : Hid (Below w.heap.size w w1) := Lib.hid ((Below.alloc (Below.refl _ _) (Nat.le_refl _) _).trans (hb1.mono (by simp)))
              clear hb1
              go_wp2_with fail
              refine (CM.out _).mono ?_
              rintro e w2 ⟨rfl, rfl⟩
              go_wp2
              go_ret
              exact ⟨rfl, HB1.out⟩
          · rw [if_neg (by omega)] at hr
            have HR := Lib.hid hr
            have CB2 := Lib.hid (CB.out (by omega))
            have e2 : (k == 3) = false := by simpa using k3
            clear hr CB hpl k3
            go_enter Tryd.func33, Tryd.ntmps33
            go_wp2_with fail
            refine (CP.out _ HV.out).mono ?_
            rintro e w1 ⟨rfl, hb1⟩
            have hs1 : w.heap.size < w1.heap.size := by have := hb1.size; simp at this; omega
            have c0 : w1.cell? ⟨w.heap.size, 0, none⟩ = some (.string _) := (hb1.cell (by simp)).trans (by simp; rfl)
            have c1 : w1.cell? ⟨w.heap.size, 1, none⟩ = some (.int .i64 _) := (hb1.cell (by simp)).trans (by simp; rfl)
            have c2 : w1.cell? ⟨w.heap.size, 2, none⟩ = some (.int .i64 _) := (hb1.cell (by simp)).trans (by simp; rfl)
            have c3 : w1.cell? ⟨w.heap.size, 3, none⟩ = some (.string _) := (hb1.cell (by simp)).trans (by simp; rfl)
            have c4 : w1.cell? ⟨w.heap.size, 4, none⟩ = some (.string _) := (hb1.cell (by simp)).trans (by simp; rfl)
            have HB1 : Hid (Below w.heap.size w w1) := Lib.hid ((Below.alloc (Below.refl _ _) (Nat.le_refl _) _).trans (hb1.mono (by simp)))
            clear hb1
            go_wp2_with fail
            refine (CM.out _).mono ?_
            rintro e w2 ⟨rfl, rfl⟩
            go_wp2_with fail
            refine (CB2.out _).mono ?_
            rintro e w3 ⟨rfl, hb3⟩
            go_wp2
            go_ret
            exact ⟨ret_int HR.out.symm, HB1.out.trans (hb3.mono (by omega))⟩
        · rw [show (decide (0 ≤ m) && decide (m ≤ 4095)) = false by
            by_cases h : 0 ≤ m
            · simp [show ¬ m ≤ 4095 from fun h' => m1 ⟨h, h'⟩]
            · simp [h]] at CM
          rw [if_pos (by omega)] at hr
          subst hr
          clear CB hpl m1
          go_enter Tryd.func33, Tryd.ntmps33
          go_wp2_with fail
          refine (CP.out _ HV.out).mono ?_
          rintro e w1 ⟨rfl, hb1⟩
          have hs1 : w.heap.size < w1.heap.size := by have := hb1.size; simp at this; omega
          have c0 : w1.cell? ⟨w.heap.size, 0, none⟩ = some (.string _) := (hb1.cell (by simp)).trans (by simp; rfl)
          have c1 : w1.cell? ⟨w.heap.size, 1, none⟩ = some (.int .i64 _) := (hb1.cell (by simp)).trans (by simp; rfl)
          have c2 : w1.cell? ⟨w.heap.size, 2, none⟩ = some (.int .i64 _) := (hb1.cell (by simp)).trans (by simp; rfl)
          have c3 : w1.cell? ⟨w.heap.size, 3, none⟩ = some (.string _) := (hb1.cell (by simp)).trans (by simp; rfl)
          have c4 : w1.cell? ⟨w.heap.size, 4, none⟩ = some (.string _) := (hb1.cell (by simp)).trans (by simp; rfl)
          have HB1 : Hid (Below w.heap.size w w1) := Lib.hid ((Below.alloc (Below.refl _ _) (Nat.le_refl _) _).trans (hb1.mono (by simp)))
          clear hb1
          go_wp2_with fail
          refine (CM.out _).mono ?_
          rintro e w2 ⟨rfl, rfl⟩
          go_wp2
          go_ret
          exact ⟨rfl, HB1.out⟩
end Go.Proofs.YtdelgbkllnccoaaDoor
