/-
  The walk of Check: the document's.
-/
import Derived.Test.YtmlgmedapbeleaaGreatDoorW7
import Derived.IntWalk
import Derived.Deep.QuietTactic
import Derived.BigQuiet
set_option linter.unusedVariables false
set_option linter.unusedSimpArgs false
namespace Go.Proofs.YtmlgmedapbeleaaGreatDoor
open Go.RowKit

theorem tr_to {w : World} {B : Nat} {v : Value} {l : List It} (h : Tr w B v l) {k : Nat} (hk : k ≤ l.length) :
    ∃ v', (∀ (w' : World), (Instr.slice 40 v none (some (.int .i64 (k : Int))) none).run Tryz.prog w' = .ok v' w') ∧ Tr w B v' (l.take k) := by
  obtain ⟨v', h1, h2⟩ := h.to (P := Tryz.prog) 40 71 Tryz.underlying40 (by kernel_rfl) hk
  refine ⟨v', h1, ?_⟩
  have e : (l.flatMap itC).take (k * 5) = (l.take k).flatMap itC := by
    have e1 := flat_drop itC 5 itC_len l k
    have e2 : l.flatMap itC = (l.take k).flatMap itC ++ (l.drop k).flatMap itC := by rw [← List.flatMap_append, List.take_append_drop]
    rw [e2, List.take_append_of_le_length (by rw [flat_len itC 5 itC_len, List.length_take]; omega), List.take_of_length_le (by rw [flat_len itC 5 itC_len, List.length_take]; omega)]
  rw [e] at h2
  have e3 : (l.take k).length = k := by rw [List.length_take]; omega
  rw [← e3] at h2
  rw [e3] at h2
  show Sl w B 5 v' (l.take k).length _
  rw [e3]
  exact h2
theorem findI_lt {l : List It} {k : Nat} {t : List UInt8} {j : Nat} (h : findI (l.take k) t = some j) : j < k ∧ ∃ o, l[j]? = some o ∧ findV (l.take k) t = some o := by
  obtain ⟨o, ho, _⟩ := findI_some h
  have hj := (List.getElem?_eq_some_iff.1 ho).1
  rw [List.length_take] at hj
  refine ⟨by omega, o, ?_, findI_at2 h ho⟩
  rw [List.getElem?_take_of_lt (by omega)] at ho
  exact ho
theorem lastP_take {l : List It} {k : Nat} {y : It} (h : l[k]? = some y) : lastP (l.take (k + 1)) = L y.p := by rw [take_snoc' h, lastP_snoc]

set_option maxHeartbeats 8000000 in
set_option maxRecDepth 100000 in
theorem rcheck_any (l : List It) (v : Value) (w : World) (hl : Tr w w.heap.size v l) (h30 : l.length ≤ 30) (hz : ∀ x ∈ l, x.p.size ≤ 20000 ∧ x.d.size ≤ 20000 ∧ x.s.size ≤ 20000) :
    Calls Tryz.prog 12 #[v] w (CkPost l w) := by
  obtain ⟨a, cap, rfl, hm⟩ := tr_shape hl
  obtain ⟨n, hn⟩ : ∃ n, n = l.length := ⟨_, rfl⟩
  rw [← hn] at hm h30
  have HL := Lib.hid hl
  have HN := Lib.hid hn
  have HZ := Lib.hid hz
  clear hl hz
  rw [← hn]
  clear hn
  by_cases h0 : n = 0
  · have HC : Hid (Chk l 12 0) := Lib.hid (.inl ⟨List.length_eq_zero_iff.1 (HN.out.symm.trans h0), rfl, rfl⟩)
    subst h0
    go_enter Tryz.func12, Tryz.ntmps12
    go_wp2
    go_ret2
    exact ⟨12, 0, HC.out, rfl, Below.refl _ _⟩
  · have hn0 : ((n : Int) == 0) = false := by rw [beq_eq_false_iff_ne]; omega
    have HNE : Hid (l ≠ []) := Lib.hid (fun e => h0 (by rw [HN.out, e]; rfl))
    clear h0
    go_enter Tryz.func12, Tryz.ntmps12
    go_wp2_with fail
    go_loopw [4] (fun i wr => ∃ k : Nat, k ≤ n ∧ i = .int .i64 k ∧ okTo l k ∧ Below w.heap.size w wr) (fun i _ => n - (intOf i).toNat)
    case atStart => exact ⟨0, Nat.zero_le _, rfl, fun i hi => by omega, Below.refl _ _⟩
    case round =>
      obtain ⟨k, hk, rfl, hok, hb⟩ := hrel
      obtain ⟨wo, rfl⟩ : ∃ wo : World, wo = wr := ⟨_, rfl⟩
      by_cases hlt : k < n
      · obtain ⟨x, hx⟩ : ∃ x, l[k]? = some x := ⟨_, List.getElem?_eq_getElem (by rw [← HN.out]; exact hlt)⟩
        have hlw := HL.out.below hb
        rw [← HN.out] at hlw
        obtain ⟨b1, o1, i1, hb1, c1⟩ := it_at (HL.out.below hb) 40 71 Tryz.underlying40 (by kernel_rfl) hx (k : Int) rfl
        obtain ⟨c2, c3, c4, c5, c6⟩ := c1
        rw [← HN.out] at i1
        have hbs := hb.size
        have hb1' : b1 < wo.heap.size := by omega
        obtain ⟨z1, z2, z3⟩ := HZ.out x (List.mem_of_getElem? hx)
        have CA := Lib.hid (fun W => alone_any x W (by omega) (by unfold maxLen; omega))
        have HLW : Hid (∀ W, Below wo.heap.size wo W → Tr W wo.heap.size (.slice a l.length cap) l) := Lib.hid fun W hW => ((HL.out.below hb).mono hbs).below hW
        obtain ⟨us, hus⟩ : ∃ us, us = S (upL (L x.p)) := ⟨_, rfl⟩
        have husL : L us = upL (L x.p) := by rw [hus]; rfl
        have CU : Hid (∀ W, Calls Tryz.prog 23 #[.string x.p] W fun e w' => e = .returned (.string us) ∧ W = w') := Lib.hid fun W => by rw [hus]; exact (up_any x.p W (by omega)).mono fun e w' h => ⟨h.1, h.2.symm⟩
        obtain ⟨r, hr⟩ : ∃ r, r = itE l k := ⟨_, rfl⟩
        have hr2 := hr
        rw [itE_at hx] at hr2
        unfold nextE at hr2
        obtain ⟨q, hq⟩ : ∃ q, q = aloneE x := ⟨_, rfl⟩
        rw [← hq] at hr2 CA
        have hpl : q = 0 → plainB x.p = true := fun h => by
          cases hp : plainB x.p with
          | true => rfl
          | false => rw [hq, aloneE, if_pos hp] at h; cases h
        obtain ⟨vt, hvt, hTt⟩ := tr_to (HL.out.below hb) (k := k) (by rw [← HN.out]; omega)
        rw [← HN.out] at hvt
        have CF : Hid (∀ (t : ByteArray) (W : World), Below wo.heap.size wo W → Calls Tryz.prog 24 #[vt, .string t] W fun e w' => e = .returned (.int .i64 (findZ (l.take k) (L t))) ∧ W = w') := Lib.hid fun t W hW =>
          (rfind_any _ _ t W (((hTt.mono hbs).below hW).mono hW.size)).mono fun e w' h => ⟨h.1, h.2.symm⟩
        have HB := Lib.hid hb
        have HOK := Lib.hid hok
        have HR := Lib.hid hr
        clear hb hok hr hq hlw hus hTt hx
        obtain ⟨p, kk, m, d, s⟩ := x
        simp only [] at c2 c3 c4 c5 c6 hr2 z1 z2 z3 husL hpl
        have HDZ : Hid (d.size ≤ 20000 ∧ s.size ≤ 20000) := Lib.hid ⟨z2, z3⟩
        have hin : IntKind.i64.wrap ((k : Int) - 1) = (k : Int) - 1 := IntWalk.i64_in _ ⟨by omega, by omega⟩
        unfold itV at CA
        by_cases hq0 : q = 0
        · subst hq0
          have hp1 := hpl rfl
          rw [if_neg (by simp)] at hr2
          clear hpl
          -- behind the order's test: the part ahead of the last slash
          by_cases hk0 : k = 0
          · have hlt2 : ([] : List UInt8) < L p := by
              have := (namesL_facts (plainB_names.1 hp1).1).1
              cases hL : L p with
              | nil => exact absurd hL this
              | cons a b => exact List.nil_lt_cons _ _
            have hl0 : l.take k = [] := by rw [hk0]; rfl
            rw [hl0, show lastP [] = [] from rfl, if_neg (fun h => h hlt2)] at hr2
            have hkg : decide ((0 : Int) < (k : Int)) = false := by simp [hk0]
            have hkg2 : decide (0 < k) = false := by simp [hk0]
            have HFZ : Hid (findZ (l.take k) (L us) = -1) := Lib.hid (by rw [hl0]; rfl)
            have HFS : Hid (findZ (l.take k) (L s) = -1) := Lib.hid (by rw [hl0]; rfl)
            clear hl0 hp1 hlt2 hk0
            by_cases hu : upL (L p) = []
            · have u0 := nil_empty (husL.trans hu)
              rw [upE, if_pos hu] at hr2
              by_cases hs0 : L s = []
              · have s0 := nil_empty hs0
                replace hr2 : r = 0 := by rw [hr2, linkE, if_pos hs0]
                have HV := Lib.hid hr2
                clear hr2 hs0 hu husL
                go_wp2_with fail
                refine (CA.out _).mono ?_
                rintro e w1 ⟨rfl, hb1⟩
                have hbw1 := (Below.alloc (Below.refl wo.heap.size wo) (Nat.le_refl _) _).trans (hb1.mono (by simp))
                have hs1 : wo.heap.size < w1.heap.size := by have := hb1.size; simp at this; omega
                have e0 : w1.cell? ⟨wo.heap.size, 0, none⟩ = some (.string _) := (hb1.cell (by simp)).trans (by simp; rfl)
                have e1 : w1.cell? ⟨wo.heap.size, 1, none⟩ = some (.int .i64 _) := (hb1.cell (by simp)).trans (by simp; rfl)
                have e2 : w1.cell? ⟨wo.heap.size, 2, none⟩ = some (.int .i64 _) := (hb1.cell (by simp)).trans (by simp; rfl)
                have e3 : w1.cell? ⟨wo.heap.size, 3, none⟩ = some (.string _) := (hb1.cell (by simp)).trans (by simp; rfl)
                have e4 : w1.cell? ⟨wo.heap.size, 4, none⟩ = some (.string _) := (hb1.cell (by simp)).trans (by simp; rfl)
                have HBW := Lib.hid hbw1
                clear hb1 hbw1 c2 c3 c4 c5 c6
                skip
                go_wp2_with fail
                go_quiet (fail)
                obtain ⟨w2, hw2⟩ : ∃ wz, wz = World.drewN w1 nq := ⟨_, rfl⟩
                rw [← hw2]
                have hcw : ∀ a, World.cell? w2 a = World.cell? w1 a := fun a => by rw [hw2]; rfl
                replace e0 := (hcw _).trans e0
                replace e1 := (hcw _).trans e1
                replace e2 := (hcw _).trans e2
                replace e3 := (hcw _).trans e3
                replace e4 := (hcw _).trans e4
                replace HBW : Hid (Below wo.heap.size wo w2) := Lib.hid (by rw [hw2]; exact below_drewN HBW.out nq)
                clear hw2 hcw
                go_wp2_with fail
                refine (CU.out _).mono ?_
                rintro e w3 ⟨rfl, rfl⟩
                go_wp2_with fail
                go_roundw
                case rel => exact ⟨k + 1, by omega, by go_num, okTo_succ HOK.out (HR.out.symm.trans HV.out), HB.out.trans (HBW.out.mono hbs)⟩
                case measure => simp [intOf]; omega
              · have s0 := ne_empty hs0
                replace hr2 : r = 22 := by rw [hr2, linkE, if_neg hs0]; rfl
                have HC : Hid (Chk l r k) := Lib.hid (.inr (.inr ⟨by rw [← HN.out]; exact hlt, HOK.out, HR.out, by rw [hr2]; decide⟩))
                have HV := Lib.hid hr2
                clear hr2 hs0 hu husL
                go_wp2_with fail
                refine (CA.out _).mono ?_
                rintro e w1 ⟨rfl, hb1⟩
                have hbw1 := (Below.alloc (Below.refl wo.heap.size wo) (Nat.le_refl _) _).trans (hb1.mono (by simp))
                have hs1 : wo.heap.size < w1.heap.size := by have := hb1.size; simp at this; omega
                have e0 : w1.cell? ⟨wo.heap.size, 0, none⟩ = some (.string _) := (hb1.cell (by simp)).trans (by simp; rfl)
                have e1 : w1.cell? ⟨wo.heap.size, 1, none⟩ = some (.int .i64 _) := (hb1.cell (by simp)).trans (by simp; rfl)
                have e2 : w1.cell? ⟨wo.heap.size, 2, none⟩ = some (.int .i64 _) := (hb1.cell (by simp)).trans (by simp; rfl)
                have e3 : w1.cell? ⟨wo.heap.size, 3, none⟩ = some (.string _) := (hb1.cell (by simp)).trans (by simp; rfl)
                have e4 : w1.cell? ⟨wo.heap.size, 4, none⟩ = some (.string _) := (hb1.cell (by simp)).trans (by simp; rfl)
                have HBW := Lib.hid hbw1
                clear hb1 hbw1 c2 c3 c4 c5 c6
                skip
                go_wp2_with fail
                go_quiet (fail)
                obtain ⟨w2, hw2⟩ : ∃ wz, wz = World.drewN w1 nq := ⟨_, rfl⟩
                rw [← hw2]
                have hcw : ∀ a, World.cell? w2 a = World.cell? w1 a := fun a => by rw [hw2]; rfl
                replace e0 := (hcw _).trans e0
                replace e1 := (hcw _).trans e1
                replace e2 := (hcw _).trans e2
                replace e3 := (hcw _).trans e3
                replace e4 := (hcw _).trans e4
                replace HBW : Hid (Below wo.heap.size wo w2) := Lib.hid (by rw [hw2]; exact below_drewN HBW.out nq)
                clear hw2 hcw
                go_wp2_with fail
                refine (CU.out _).mono ?_
                rintro e w3 ⟨rfl, rfl⟩
                go_wp2_with fail
                have CQ : Hid (∀ n', Calls Tryz.prog 24 #[vt, .string s] (World.drewN w2 n') fun e w' => e = .returned (.int .i64 (findZ (l.take k) (L s))) ∧ w' = World.drewN w2 n') := Lib.hid fun n' => (CF.out s _ (below_drewN HBW.out n')).mono fun e w' h => ⟨h.1, h.2.symm⟩
                rw [HFS.out] at CQ
                go_quiet ((go_at_call 24; with_reducible exact Calls.quiet_of_same (CQ.out _)))
                obtain ⟨w3, hw2⟩ : ∃ wz, wz = World.drewN w2 nq := ⟨_, rfl⟩
                rw [← hw2]
                have hcw : ∀ a, World.cell? w3 a = World.cell? w2 a := fun a => by rw [hw2]; rfl
                replace e0 := (hcw _).trans e0
                replace e1 := (hcw _).trans e1
                replace e2 := (hcw _).trans e2
                replace e3 := (hcw _).trans e3
                replace e4 := (hcw _).trans e4
                replace HBW : Hid (Below wo.heap.size wo w3) := Lib.hid (by rw [hw2]; exact below_drewN HBW.out nq)
                clear hw2 hcw
                go_wp2_with fail
                go_quiet (fail)
                go_wp2
                go_ret2
                exact ⟨r, k, HC.out, congrArg Ending.returned (congrArg Value.tuple (by rw [HV.out]; rfl)), HB.out.trans ((by first | exact HBW.out | exact below_drewN HBW.out _ : Below wo.heap.size wo _).mono hbs)⟩
            · have u0 := ne_empty (s := us) (by rw [husL]; exact hu)
              replace hr2 : r = 14 := by rw [hr2, upE, if_neg hu]; rfl
              have HC : Hid (Chk l r k) := Lib.hid (.inr (.inr ⟨by rw [← HN.out]; exact hlt, HOK.out, HR.out, by rw [hr2]; decide⟩))
              have HV := Lib.hid hr2
              clear hr2 hu husL
              go_wp2_with fail
              refine (CA.out _).mono ?_
              rintro e w1 ⟨rfl, hb1⟩
              have hbw1 := (Below.alloc (Below.refl wo.heap.size wo) (Nat.le_refl _) _).trans (hb1.mono (by simp))
              have hs1 : wo.heap.size < w1.heap.size := by have := hb1.size; simp at this; omega
              have e0 : w1.cell? ⟨wo.heap.size, 0, none⟩ = some (.string _) := (hb1.cell (by simp)).trans (by simp; rfl)
              have e1 : w1.cell? ⟨wo.heap.size, 1, none⟩ = some (.int .i64 _) := (hb1.cell (by simp)).trans (by simp; rfl)
              have e2 : w1.cell? ⟨wo.heap.size, 2, none⟩ = some (.int .i64 _) := (hb1.cell (by simp)).trans (by simp; rfl)
              have e3 : w1.cell? ⟨wo.heap.size, 3, none⟩ = some (.string _) := (hb1.cell (by simp)).trans (by simp; rfl)
              have e4 : w1.cell? ⟨wo.heap.size, 4, none⟩ = some (.string _) := (hb1.cell (by simp)).trans (by simp; rfl)
              have HBW := Lib.hid hbw1
              clear hb1 hbw1 c2 c3 c4 c5 c6
              skip
              go_wp2_with fail
              go_quiet (fail)
              obtain ⟨w2, hw2⟩ : ∃ wz, wz = World.drewN w1 nq := ⟨_, rfl⟩
              rw [← hw2]
              have hcw : ∀ a, World.cell? w2 a = World.cell? w1 a := fun a => by rw [hw2]; rfl
              replace e0 := (hcw _).trans e0
              replace e1 := (hcw _).trans e1
              replace e2 := (hcw _).trans e2
              replace e3 := (hcw _).trans e3
              replace e4 := (hcw _).trans e4
              replace HBW : Hid (Below wo.heap.size wo w2) := Lib.hid (by rw [hw2]; exact below_drewN HBW.out nq)
              clear hw2 hcw
              go_wp2_with fail
              refine (CU.out _).mono ?_
              rintro e w3 ⟨rfl, rfl⟩
              go_wp2_with fail
              refine (CF.out us _ HBW.out).mono ?_
              rintro e w3 ⟨rfl, rfl⟩
              rw [HFZ.out]
              go_wp2
              go_ret2
              exact ⟨r, k, HC.out, congrArg Ending.returned (congrArg Value.tuple (by rw [HV.out]; rfl)), HB.out.trans ((by first | exact HBW.out | exact below_drewN HBW.out _ : Below wo.heap.size wo _).mono hbs)⟩
          · have hk1 : 0 < k := by omega
            have hkg : decide ((0 : Int) < (k : Int)) = true := by simpa using hk1
            obtain ⟨y, hy⟩ : ∃ y, l[k - 1]? = some y := ⟨_, List.getElem?_eq_getElem (by rw [← HN.out]; omega)⟩
            have hly : lastP (l.take k) = L y.p := by rw [show k = k - 1 + 1 by omega]; exact lastP_take hy
            rw [hly] at hr2
            obtain ⟨b2, o2, i2, hb2, g2⟩ := it_at (HLW.out wo (Below.refl _ _)) 40 71 Tryz.underlying40 (by kernel_rfl) hy ((k : Int) - 1) (by omega)
            rw [← HN.out] at i2
            have hyp := g2.p
            clear g2 hy hly hp1 hk0
            by_cases hlt2 : L y.p < L p
            · rw [if_neg (fun h => h hlt2)] at hr2
              obtain ⟨f1, f2⟩ := bytes_gt hlt2
              rw [← toList_L, ← toList_L] at f1 f2
              by_cases hu : upL (L p) = []
              · have u0 := nil_empty (husL.trans hu)
                rw [upE, if_pos hu] at hr2
                -- have y0 := (HBW.out.cell hb2).trans hyp; clear hyp: behind alone; UP: UP or UPF; hu husL hlt2: what to clear
                by_cases hs0 : L s = []
                · have s0 := nil_empty hs0
                  replace hr2 : r = 0 := by rw [hr2, linkE, if_pos hs0]
                  have HV := Lib.hid hr2
                  clear hr2 hs0 hu husL hlt2
                  go_wp2_with fail
                  refine (CA.out _).mono ?_
                  rintro e w1 ⟨rfl, hb1⟩
                  have hbw1 := (Below.alloc (Below.refl wo.heap.size wo) (Nat.le_refl _) _).trans (hb1.mono (by simp))
                  have hs1 : wo.heap.size < w1.heap.size := by have := hb1.size; simp at this; omega
                  have e0 : w1.cell? ⟨wo.heap.size, 0, none⟩ = some (.string _) := (hb1.cell (by simp)).trans (by simp; rfl)
                  have e1 : w1.cell? ⟨wo.heap.size, 1, none⟩ = some (.int .i64 _) := (hb1.cell (by simp)).trans (by simp; rfl)
                  have e2 : w1.cell? ⟨wo.heap.size, 2, none⟩ = some (.int .i64 _) := (hb1.cell (by simp)).trans (by simp; rfl)
                  have e3 : w1.cell? ⟨wo.heap.size, 3, none⟩ = some (.string _) := (hb1.cell (by simp)).trans (by simp; rfl)
                  have e4 : w1.cell? ⟨wo.heap.size, 4, none⟩ = some (.string _) := (hb1.cell (by simp)).trans (by simp; rfl)
                  have HBW := Lib.hid hbw1
                  clear hb1 hbw1 c2 c3 c4 c5 c6
                  have y0 := (HBW.out.cell hb2).trans hyp; clear hyp
                  go_wp2_with fail
                  go_quiet (fail)
                  obtain ⟨w2, hw2⟩ : ∃ wz, wz = World.drewN w1 nq := ⟨_, rfl⟩
                  rw [← hw2]
                  have hcw : ∀ a, World.cell? w2 a = World.cell? w1 a := fun a => by rw [hw2]; rfl
                  replace e0 := (hcw _).trans e0
                  replace e1 := (hcw _).trans e1
                  replace e2 := (hcw _).trans e2
                  replace e3 := (hcw _).trans e3
                  replace e4 := (hcw _).trans e4
                  replace HBW : Hid (Below wo.heap.size wo w2) := Lib.hid (by rw [hw2]; exact below_drewN HBW.out nq)
                  clear hw2 hcw
                  go_wp2_with fail
                  refine (CU.out _).mono ?_
                  rintro e w3 ⟨rfl, rfl⟩
                  go_wp2_with fail
                  go_roundw
                  case rel => exact ⟨k + 1, by omega, by go_num, okTo_succ HOK.out (HR.out.symm.trans HV.out), HB.out.trans (HBW.out.mono hbs)⟩
                  case measure => simp [intOf]; omega
                · have s0 := ne_empty hs0
                  rw [linkE, if_neg hs0] at hr2
                  simp only [] at hr2
                  cases hf : findI (l.take k) (L s) with
                  | none =>
                    rw [findV_no hf] at hr2
                    replace hr2 : r = 22 := hr2
                    have HFS := Lib.hid (findZ_none hf)
                    have HC : Hid (Chk l r k) := Lib.hid (.inr (.inr ⟨by rw [← HN.out]; exact hlt, HOK.out, HR.out, by rw [hr2]; decide⟩))
                    have HV := Lib.hid hr2
                    clear hr2 hs0 hf hu husL hlt2
                    go_wp2_with fail
                    refine (CA.out _).mono ?_
                    rintro e w1 ⟨rfl, hb1⟩
                    have hbw1 := (Below.alloc (Below.refl wo.heap.size wo) (Nat.le_refl _) _).trans (hb1.mono (by simp))
                    have hs1 : wo.heap.size < w1.heap.size := by have := hb1.size; simp at this; omega
                    have e0 : w1.cell? ⟨wo.heap.size, 0, none⟩ = some (.string _) := (hb1.cell (by simp)).trans (by simp; rfl)
                    have e1 : w1.cell? ⟨wo.heap.size, 1, none⟩ = some (.int .i64 _) := (hb1.cell (by simp)).trans (by simp; rfl)
                    have e2 : w1.cell? ⟨wo.heap.size, 2, none⟩ = some (.int .i64 _) := (hb1.cell (by simp)).trans (by simp; rfl)
                    have e3 : w1.cell? ⟨wo.heap.size, 3, none⟩ = some (.string _) := (hb1.cell (by simp)).trans (by simp; rfl)
                    have e4 : w1.cell? ⟨wo.heap.size, 4, none⟩ = some (.string _) := (hb1.cell (by simp)).trans (by simp; rfl)
                    have HBW := Lib.hid hbw1
                    clear hb1 hbw1 c2 c3 c4 c5 c6
                    have y0 := (HBW.out.cell hb2).trans hyp; clear hyp
                    go_wp2_with fail
                    go_quiet (fail)
                    obtain ⟨w2, hw2⟩ : ∃ wz, wz = World.drewN w1 nq := ⟨_, rfl⟩
                    rw [← hw2]
                    have hcw : ∀ a, World.cell? w2 a = World.cell? w1 a := fun a => by rw [hw2]; rfl
                    replace e0 := (hcw _).trans e0
                    replace e1 := (hcw _).trans e1
                    replace e2 := (hcw _).trans e2
                    replace e3 := (hcw _).trans e3
                    replace e4 := (hcw _).trans e4
                    replace HBW : Hid (Below wo.heap.size wo w2) := Lib.hid (by rw [hw2]; exact below_drewN HBW.out nq)
                    clear hw2 hcw
                    go_wp2_with fail
                    refine (CU.out _).mono ?_
                    rintro e w3 ⟨rfl, rfl⟩
                    go_wp2_with fail
                    have CQ : Hid (∀ n', Calls Tryz.prog 24 #[vt, .string s] (World.drewN w2 n') fun e w' => e = .returned (.int .i64 (findZ (l.take k) (L s))) ∧ w' = World.drewN w2 n') := Lib.hid fun n' => (CF.out s _ (below_drewN HBW.out n')).mono fun e w' h => ⟨h.1, h.2.symm⟩
                    rw [HFS.out] at CQ
                    go_quiet ((go_at_call 24; with_reducible exact Calls.quiet_of_same (CQ.out _)))
                    obtain ⟨w3, hw2⟩ : ∃ wz, wz = World.drewN w2 nq := ⟨_, rfl⟩
                    rw [← hw2]
                    have hcw : ∀ a, World.cell? w3 a = World.cell? w2 a := fun a => by rw [hw2]; rfl
                    replace e0 := (hcw _).trans e0
                    replace e1 := (hcw _).trans e1
                    replace e2 := (hcw _).trans e2
                    replace e3 := (hcw _).trans e3
                    replace e4 := (hcw _).trans e4
                    replace HBW : Hid (Below wo.heap.size wo w3) := Lib.hid (by rw [hw2]; exact below_drewN HBW.out nq)
                    clear hw2 hcw
                    go_wp2_with fail
                    go_quiet (fail)
                    go_wp2
                    go_ret2
                    exact ⟨r, k, HC.out, congrArg Ending.returned (congrArg Value.tuple (by rw [HV.out]; rfl)), HB.out.trans ((by first | exact HBW.out | exact below_drewN HBW.out _ : Below wo.heap.size wo _).mono hbs)⟩
                  | some j =>
                    obtain ⟨hjk, o, ho, hfv⟩ := findI_lt hf
                    rw [hfv] at hr2
                    have HFS := Lib.hid (findZ_some hf)
                    obtain ⟨b3, o3, i3, hb3, g3⟩ := it_at (HLW.out wo (Below.refl _ _)) 40 71 Tryz.underlying40 (by kernel_rfl) ho (j : Int) rfl
                    rw [← HN.out] at i3
                    have hjn : decide ((j : Int) < 0) = false := by simp
                    obtain ⟨op, ok, om, od, os⟩ := o
                    have HG3 := Lib.hid g3
                    simp only [] at hr2
                    by_cases k1 : ok = 1
                    · have t1 : (ok != 1) = false := by simp [k1]
                      by_cases so : L os = []
                      · have t2 := nil_empty so
                        by_cases mm : om = m
                        · have t3 : (om != m) = false := by simp [mm]
                          by_cases dd : L d = []
                          · have t4 := nil_empty dd
                            replace hr2 : r = 0 := by rw [hr2, if_neg (by simp [k1, so, mm, dd])]
                            have HV := Lib.hid hr2
                            clear hr2 hs0 hf k1 so mm dd ho hfv g3 hu husL hlt2
                            go_wp2_with fail
                            refine (CA.out _).mono ?_
                            rintro e w1 ⟨rfl, hb1⟩
                            have hbw1 := (Below.alloc (Below.refl wo.heap.size wo) (Nat.le_refl _) _).trans (hb1.mono (by simp))
                            have hs1 : wo.heap.size < w1.heap.size := by have := hb1.size; simp at this; omega
                            have e0 : w1.cell? ⟨wo.heap.size, 0, none⟩ = some (.string _) := (hb1.cell (by simp)).trans (by simp; rfl)
                            have e1 : w1.cell? ⟨wo.heap.size, 1, none⟩ = some (.int .i64 _) := (hb1.cell (by simp)).trans (by simp; rfl)
                            have e2 : w1.cell? ⟨wo.heap.size, 2, none⟩ = some (.int .i64 _) := (hb1.cell (by simp)).trans (by simp; rfl)
                            have e3 : w1.cell? ⟨wo.heap.size, 3, none⟩ = some (.string _) := (hb1.cell (by simp)).trans (by simp; rfl)
                            have e4 : w1.cell? ⟨wo.heap.size, 4, none⟩ = some (.string _) := (hb1.cell (by simp)).trans (by simp; rfl)
                            have HBW := Lib.hid hbw1
                            clear hb1 hbw1 c2 c3 c4 c5 c6
                            have y0 := (HBW.out.cell hb2).trans hyp; clear hyp
                            go_wp2_with fail
                            go_quiet (fail)
                            obtain ⟨w2, hw2⟩ : ∃ wz, wz = World.drewN w1 nq := ⟨_, rfl⟩
                            rw [← hw2]
                            have hcw : ∀ a, World.cell? w2 a = World.cell? w1 a := fun a => by rw [hw2]; rfl
                            replace e0 := (hcw _).trans e0
                            replace e1 := (hcw _).trans e1
                            replace e2 := (hcw _).trans e2
                            replace e3 := (hcw _).trans e3
                            replace e4 := (hcw _).trans e4
                            replace HBW : Hid (Below wo.heap.size wo w2) := Lib.hid (by rw [hw2]; exact below_drewN HBW.out nq)
                            clear hw2 hcw
                            go_wp2_with fail
                            refine (CU.out _).mono ?_
                            rintro e w3 ⟨rfl, rfl⟩
                            go_wp2_with fail
                            have CQ : Hid (∀ n', Calls Tryz.prog 24 #[vt, .string s] (World.drewN w2 n') fun e w' => e = .returned (.int .i64 (findZ (l.take k) (L s))) ∧ w' = World.drewN w2 n') := Lib.hid fun n' => (CF.out s _ (below_drewN HBW.out n')).mono fun e w' h => ⟨h.1, h.2.symm⟩
                            rw [HFS.out] at CQ
                            go_quiet ((go_at_call 24; with_reducible exact Calls.quiet_of_same (CQ.out _)))
                            obtain ⟨w3, hw2⟩ : ∃ wz, wz = World.drewN w2 nq := ⟨_, rfl⟩
                            rw [← hw2]
                            have hcw : ∀ a, World.cell? w3 a = World.cell? w2 a := fun a => by rw [hw2]; rfl
                            replace e0 := (hcw _).trans e0
                            replace e1 := (hcw _).trans e1
                            replace e2 := (hcw _).trans e2
                            replace e3 := (hcw _).trans e3
                            replace e4 := (hcw _).trans e4
                            replace HBW : Hid (Below wo.heap.size wo w3) := Lib.hid (by rw [hw2]; exact below_drewN HBW.out nq)
                            clear hw2 hcw
                            have f1' := (HG3.out.below HBW.out hb3).k
                            have f2' := (HG3.out.below HBW.out hb3).s
                            have f3' := (HG3.out.below HBW.out hb3).m
                            simp only [] at f1' f2' f3'
                            go_wp2_with fail
                            go_quiet (fail)
                            go_wp2
                            go_roundw
                            case rel => exact ⟨k + 1, by omega, by go_num, okTo_succ HOK.out (HR.out.symm.trans HV.out), HB.out.trans ((below_drewN HBW.out _).mono hbs)⟩
                            case measure => simp [intOf]; omega
                          · have t4 := ne_empty dd
                            rw [if_pos (.inr (.inr (.inr dd)))] at hr2
                            have HC : Hid (Chk l r k) := Lib.hid (.inr (.inr ⟨by rw [← HN.out]; exact hlt, HOK.out, HR.out, by rw [hr2]; decide⟩))
                            have HV := Lib.hid hr2
                            clear hr2 hs0 hf k1 so mm dd ho hfv g3 hu husL hlt2
                            go_wp2_with fail
                            refine (CA.out _).mono ?_
                            rintro e w1 ⟨rfl, hb1⟩
                            have hbw1 := (Below.alloc (Below.refl wo.heap.size wo) (Nat.le_refl _) _).trans (hb1.mono (by simp))
                            have hs1 : wo.heap.size < w1.heap.size := by have := hb1.size; simp at this; omega
                            have e0 : w1.cell? ⟨wo.heap.size, 0, none⟩ = some (.string _) := (hb1.cell (by simp)).trans (by simp; rfl)
                            have e1 : w1.cell? ⟨wo.heap.size, 1, none⟩ = some (.int .i64 _) := (hb1.cell (by simp)).trans (by simp; rfl)
                            have e2 : w1.cell? ⟨wo.heap.size, 2, none⟩ = some (.int .i64 _) := (hb1.cell (by simp)).trans (by simp; rfl)
                            have e3 : w1.cell? ⟨wo.heap.size, 3, none⟩ = some (.string _) := (hb1.cell (by simp)).trans (by simp; rfl)
                            have e4 : w1.cell? ⟨wo.heap.size, 4, none⟩ = some (.string _) := (hb1.cell (by simp)).trans (by simp; rfl)
                            have HBW := Lib.hid hbw1
                            clear hb1 hbw1 c2 c3 c4 c5 c6
                            have y0 := (HBW.out.cell hb2).trans hyp; clear hyp
                            go_wp2_with fail
                            go_quiet (fail)
                            obtain ⟨w2, hw2⟩ : ∃ wz, wz = World.drewN w1 nq := ⟨_, rfl⟩
                            rw [← hw2]
                            have hcw : ∀ a, World.cell? w2 a = World.cell? w1 a := fun a => by rw [hw2]; rfl
                            replace e0 := (hcw _).trans e0
                            replace e1 := (hcw _).trans e1
                            replace e2 := (hcw _).trans e2
                            replace e3 := (hcw _).trans e3
                            replace e4 := (hcw _).trans e4
                            replace HBW : Hid (Below wo.heap.size wo w2) := Lib.hid (by rw [hw2]; exact below_drewN HBW.out nq)
                            clear hw2 hcw
                            go_wp2_with fail
                            refine (CU.out _).mono ?_
                            rintro e w3 ⟨rfl, rfl⟩
                            go_wp2_with fail
                            have CQ : Hid (∀ n', Calls Tryz.prog 24 #[vt, .string s] (World.drewN w2 n') fun e w' => e = .returned (.int .i64 (findZ (l.take k) (L s))) ∧ w' = World.drewN w2 n') := Lib.hid fun n' => (CF.out s _ (below_drewN HBW.out n')).mono fun e w' h => ⟨h.1, h.2.symm⟩
                            rw [HFS.out] at CQ
                            go_quiet ((go_at_call 24; with_reducible exact Calls.quiet_of_same (CQ.out _)))
                            obtain ⟨w3, hw2⟩ : ∃ wz, wz = World.drewN w2 nq := ⟨_, rfl⟩
                            rw [← hw2]
                            have hcw : ∀ a, World.cell? w3 a = World.cell? w2 a := fun a => by rw [hw2]; rfl
                            replace e0 := (hcw _).trans e0
                            replace e1 := (hcw _).trans e1
                            replace e2 := (hcw _).trans e2
                            replace e3 := (hcw _).trans e3
                            replace e4 := (hcw _).trans e4
                            replace HBW : Hid (Below wo.heap.size wo w3) := Lib.hid (by rw [hw2]; exact below_drewN HBW.out nq)
                            clear hw2 hcw
                            have f1' := (HG3.out.below HBW.out hb3).k
                            have f2' := (HG3.out.below HBW.out hb3).s
                            have f3' := (HG3.out.below HBW.out hb3).m
                            simp only [] at f1' f2' f3'
                            go_wp2_with fail
                            go_quiet (fail)
                            go_wp2
                            go_ret2
                            exact ⟨r, k, HC.out, congrArg Ending.returned (congrArg Value.tuple (by rw [HV.out]; rfl)), HB.out.trans ((by first | exact HBW.out | exact below_drewN HBW.out _ : Below wo.heap.size wo _).mono hbs)⟩
                        · have t3 : (om != m) = true := by simpa using mm
                          rw [if_pos (.inr (.inr (.inl mm)))] at hr2
                          have HC : Hid (Chk l r k) := Lib.hid (.inr (.inr ⟨by rw [← HN.out]; exact hlt, HOK.out, HR.out, by rw [hr2]; decide⟩))
                          have HV := Lib.hid hr2
                          clear hr2 hs0 hf k1 so mm ho hfv g3 hu husL hlt2
                          go_wp2_with fail
                          refine (CA.out _).mono ?_
                          rintro e w1 ⟨rfl, hb1⟩
                          have hbw1 := (Below.alloc (Below.refl wo.heap.size wo) (Nat.le_refl _) _).trans (hb1.mono (by simp))
                          have hs1 : wo.heap.size < w1.heap.size := by have := hb1.size; simp at this; omega
                          have e0 : w1.cell? ⟨wo.heap.size, 0, none⟩ = some (.string _) := (hb1.cell (by simp)).trans (by simp; rfl)
                          have e1 : w1.cell? ⟨wo.heap.size, 1, none⟩ = some (.int .i64 _) := (hb1.cell (by simp)).trans (by simp; rfl)
                          have e2 : w1.cell? ⟨wo.heap.size, 2, none⟩ = some (.int .i64 _) := (hb1.cell (by simp)).trans (by simp; rfl)
                          have e3 : w1.cell? ⟨wo.heap.size, 3, none⟩ = some (.string _) := (hb1.cell (by simp)).trans (by simp; rfl)
                          have e4 : w1.cell? ⟨wo.heap.size, 4, none⟩ = some (.string _) := (hb1.cell (by simp)).trans (by simp; rfl)
                          have HBW := Lib.hid hbw1
                          clear hb1 hbw1 c2 c3 c4 c5 c6
                          have y0 := (HBW.out.cell hb2).trans hyp; clear hyp
                          go_wp2_with fail
                          go_quiet (fail)
                          obtain ⟨w2, hw2⟩ : ∃ wz, wz = World.drewN w1 nq := ⟨_, rfl⟩
                          rw [← hw2]
                          have hcw : ∀ a, World.cell? w2 a = World.cell? w1 a := fun a => by rw [hw2]; rfl
                          replace e0 := (hcw _).trans e0
                          replace e1 := (hcw _).trans e1
                          replace e2 := (hcw _).trans e2
                          replace e3 := (hcw _).trans e3
                          replace e4 := (hcw _).trans e4
                          replace HBW : Hid (Below wo.heap.size wo w2) := Lib.hid (by rw [hw2]; exact below_drewN HBW.out nq)
                          clear hw2 hcw
                          go_wp2_with fail
                          refine (CU.out _).mono ?_
                          rintro e w3 ⟨rfl, rfl⟩
                          go_wp2_with fail
                          have CQ : Hid (∀ n', Calls Tryz.prog 24 #[vt, .string s] (World.drewN w2 n') fun e w' => e = .returned (.int .i64 (findZ (l.take k) (L s))) ∧ w' = World.drewN w2 n') := Lib.hid fun n' => (CF.out s _ (below_drewN HBW.out n')).mono fun e w' h => ⟨h.1, h.2.symm⟩
                          rw [HFS.out] at CQ
                          go_quiet ((go_at_call 24; with_reducible exact Calls.quiet_of_same (CQ.out _)))
                          obtain ⟨w3, hw2⟩ : ∃ wz, wz = World.drewN w2 nq := ⟨_, rfl⟩
                          rw [← hw2]
                          have hcw : ∀ a, World.cell? w3 a = World.cell? w2 a := fun a => by rw [hw2]; rfl
                          replace e0 := (hcw _).trans e0
                          replace e1 := (hcw _).trans e1
                          replace e2 := (hcw _).trans e2
                          replace e3 := (hcw _).trans e3
                          replace e4 := (hcw _).trans e4
                          replace HBW : Hid (Below wo.heap.size wo w3) := Lib.hid (by rw [hw2]; exact below_drewN HBW.out nq)
                          clear hw2 hcw
                          have f1' := (HG3.out.below HBW.out hb3).k
                          have f2' := (HG3.out.below HBW.out hb3).s
                          have f3' := (HG3.out.below HBW.out hb3).m
                          simp only [] at f1' f2' f3'
                          go_wp2_with fail
                          go_quiet (fail)
                          go_wp2
                          go_ret2
                          exact ⟨r, k, HC.out, congrArg Ending.returned (congrArg Value.tuple (by rw [HV.out]; rfl)), HB.out.trans ((by first | exact HBW.out | exact below_drewN HBW.out _ : Below wo.heap.size wo _).mono hbs)⟩
                      · have t2 := ne_empty so
                        rw [if_pos (.inr (.inl so))] at hr2
                        have HC : Hid (Chk l r k) := Lib.hid (.inr (.inr ⟨by rw [← HN.out]; exact hlt, HOK.out, HR.out, by rw [hr2]; decide⟩))
                        have HV := Lib.hid hr2
                        clear hr2 hs0 hf k1 so ho hfv g3 hu husL hlt2
                        go_wp2_with fail
                        refine (CA.out _).mono ?_
                        rintro e w1 ⟨rfl, hb1⟩
                        have hbw1 := (Below.alloc (Below.refl wo.heap.size wo) (Nat.le_refl _) _).trans (hb1.mono (by simp))
                        have hs1 : wo.heap.size < w1.heap.size := by have := hb1.size; simp at this; omega
                        have e0 : w1.cell? ⟨wo.heap.size, 0, none⟩ = some (.string _) := (hb1.cell (by simp)).trans (by simp; rfl)
                        have e1 : w1.cell? ⟨wo.heap.size, 1, none⟩ = some (.int .i64 _) := (hb1.cell (by simp)).trans (by simp; rfl)
                        have e2 : w1.cell? ⟨wo.heap.size, 2, none⟩ = some (.int .i64 _) := (hb1.cell (by simp)).trans (by simp; rfl)
                        have e3 : w1.cell? ⟨wo.heap.size, 3, none⟩ = some (.string _) := (hb1.cell (by simp)).trans (by simp; rfl)
                        have e4 : w1.cell? ⟨wo.heap.size, 4, none⟩ = some (.string _) := (hb1.cell (by simp)).trans (by simp; rfl)
                        have HBW := Lib.hid hbw1
                        clear hb1 hbw1 c2 c3 c4 c5 c6
                        have y0 := (HBW.out.cell hb2).trans hyp; clear hyp
                        go_wp2_with fail
                        go_quiet (fail)
                        obtain ⟨w2, hw2⟩ : ∃ wz, wz = World.drewN w1 nq := ⟨_, rfl⟩
                        rw [← hw2]
                        have hcw : ∀ a, World.cell? w2 a = World.cell? w1 a := fun a => by rw [hw2]; rfl
                        replace e0 := (hcw _).trans e0
                        replace e1 := (hcw _).trans e1
                        replace e2 := (hcw _).trans e2
                        replace e3 := (hcw _).trans e3
                        replace e4 := (hcw _).trans e4
                        replace HBW : Hid (Below wo.heap.size wo w2) := Lib.hid (by rw [hw2]; exact below_drewN HBW.out nq)
                        clear hw2 hcw
                        go_wp2_with fail
                        refine (CU.out _).mono ?_
                        rintro e w3 ⟨rfl, rfl⟩
                        go_wp2_with fail
                        have CQ : Hid (∀ n', Calls Tryz.prog 24 #[vt, .string s] (World.drewN w2 n') fun e w' => e = .returned (.int .i64 (findZ (l.take k) (L s))) ∧ w' = World.drewN w2 n') := Lib.hid fun n' => (CF.out s _ (below_drewN HBW.out n')).mono fun e w' h => ⟨h.1, h.2.symm⟩
                        rw [HFS.out] at CQ
                        go_quiet ((go_at_call 24; with_reducible exact Calls.quiet_of_same (CQ.out _)))
                        obtain ⟨w3, hw2⟩ : ∃ wz, wz = World.drewN w2 nq := ⟨_, rfl⟩
                        rw [← hw2]
                        have hcw : ∀ a, World.cell? w3 a = World.cell? w2 a := fun a => by rw [hw2]; rfl
                        replace e0 := (hcw _).trans e0
                        replace e1 := (hcw _).trans e1
                        replace e2 := (hcw _).trans e2
                        replace e3 := (hcw _).trans e3
                        replace e4 := (hcw _).trans e4
                        replace HBW : Hid (Below wo.heap.size wo w3) := Lib.hid (by rw [hw2]; exact below_drewN HBW.out nq)
                        clear hw2 hcw
                        have f1' := (HG3.out.below HBW.out hb3).k
                        have f2' := (HG3.out.below HBW.out hb3).s
                        have f3' := (HG3.out.below HBW.out hb3).m
                        simp only [] at f1' f2' f3'
                        go_wp2_with fail
                        go_quiet (fail)
                        go_wp2
                        go_ret2
                        exact ⟨r, k, HC.out, congrArg Ending.returned (congrArg Value.tuple (by rw [HV.out]; rfl)), HB.out.trans ((by first | exact HBW.out | exact below_drewN HBW.out _ : Below wo.heap.size wo _).mono hbs)⟩
                    · have t1 : (ok != 1) = true := by simpa using k1
                      rw [if_pos (.inl k1)] at hr2
                      have HC : Hid (Chk l r k) := Lib.hid (.inr (.inr ⟨by rw [← HN.out]; exact hlt, HOK.out, HR.out, by rw [hr2]; decide⟩))
                      have HV := Lib.hid hr2
                      clear hr2 hs0 hf k1 ho hfv g3 hu husL hlt2
                      go_wp2_with fail
                      refine (CA.out _).mono ?_
                      rintro e w1 ⟨rfl, hb1⟩
                      have hbw1 := (Below.alloc (Below.refl wo.heap.size wo) (Nat.le_refl _) _).trans (hb1.mono (by simp))
                      have hs1 : wo.heap.size < w1.heap.size := by have := hb1.size; simp at this; omega
                      have e0 : w1.cell? ⟨wo.heap.size, 0, none⟩ = some (.string _) := (hb1.cell (by simp)).trans (by simp; rfl)
                      have e1 : w1.cell? ⟨wo.heap.size, 1, none⟩ = some (.int .i64 _) := (hb1.cell (by simp)).trans (by simp; rfl)
                      have e2 : w1.cell? ⟨wo.heap.size, 2, none⟩ = some (.int .i64 _) := (hb1.cell (by simp)).trans (by simp; rfl)
                      have e3 : w1.cell? ⟨wo.heap.size, 3, none⟩ = some (.string _) := (hb1.cell (by simp)).trans (by simp; rfl)
                      have e4 : w1.cell? ⟨wo.heap.size, 4, none⟩ = some (.string _) := (hb1.cell (by simp)).trans (by simp; rfl)
                      have HBW := Lib.hid hbw1
                      clear hb1 hbw1 c2 c3 c4 c5 c6
                      have y0 := (HBW.out.cell hb2).trans hyp; clear hyp
                      go_wp2_with fail
                      go_quiet (fail)
                      obtain ⟨w2, hw2⟩ : ∃ wz, wz = World.drewN w1 nq := ⟨_, rfl⟩
                      rw [← hw2]
                      have hcw : ∀ a, World.cell? w2 a = World.cell? w1 a := fun a => by rw [hw2]; rfl
                      replace e0 := (hcw _).trans e0
                      replace e1 := (hcw _).trans e1
                      replace e2 := (hcw _).trans e2
                      replace e3 := (hcw _).trans e3
                      replace e4 := (hcw _).trans e4
                      replace HBW : Hid (Below wo.heap.size wo w2) := Lib.hid (by rw [hw2]; exact below_drewN HBW.out nq)
                      clear hw2 hcw
                      go_wp2_with fail
                      refine (CU.out _).mono ?_
                      rintro e w3 ⟨rfl, rfl⟩
                      go_wp2_with fail
                      have CQ : Hid (∀ n', Calls Tryz.prog 24 #[vt, .string s] (World.drewN w2 n') fun e w' => e = .returned (.int .i64 (findZ (l.take k) (L s))) ∧ w' = World.drewN w2 n') := Lib.hid fun n' => (CF.out s _ (below_drewN HBW.out n')).mono fun e w' h => ⟨h.1, h.2.symm⟩
                      rw [HFS.out] at CQ
                      go_quiet ((go_at_call 24; with_reducible exact Calls.quiet_of_same (CQ.out _)))
                      obtain ⟨w3, hw2⟩ : ∃ wz, wz = World.drewN w2 nq := ⟨_, rfl⟩
                      rw [← hw2]
                      have hcw : ∀ a, World.cell? w3 a = World.cell? w2 a := fun a => by rw [hw2]; rfl
                      replace e0 := (hcw _).trans e0
                      replace e1 := (hcw _).trans e1
                      replace e2 := (hcw _).trans e2
                      replace e3 := (hcw _).trans e3
                      replace e4 := (hcw _).trans e4
                      replace HBW : Hid (Below wo.heap.size wo w3) := Lib.hid (by rw [hw2]; exact below_drewN HBW.out nq)
                      clear hw2 hcw
                      have f1' := (HG3.out.below HBW.out hb3).k
                      have f2' := (HG3.out.below HBW.out hb3).s
                      have f3' := (HG3.out.below HBW.out hb3).m
                      simp only [] at f1' f2' f3'
                      go_wp2_with fail
                      go_quiet (fail)
                      go_wp2
                      go_ret2
                      exact ⟨r, k, HC.out, congrArg Ending.returned (congrArg Value.tuple (by rw [HV.out]; rfl)), HB.out.trans ((by first | exact HBW.out | exact below_drewN HBW.out _ : Below wo.heap.size wo _).mono hbs)⟩
              · have u0 := ne_empty (s := us) (by rw [husL]; exact hu)
                rw [upE, if_neg hu] at hr2
                simp only [] at hr2
                cases hfu : findI (l.take k) (upL (L p)) with
                | none =>
                  rw [findV_no hfu] at hr2
                  replace hr2 : r = 14 := hr2
                  have HFZ : Hid (findZ (l.take k) (L us) = -1) := Lib.hid (by rw [husL]; exact findZ_none hfu)
                  have HC : Hid (Chk l r k) := Lib.hid (.inr (.inr ⟨by rw [← HN.out]; exact hlt, HOK.out, HR.out, by rw [hr2]; decide⟩))
                  have HV := Lib.hid hr2
                  clear hr2 hu hfu husL hlt2
                  go_wp2_with fail
                  refine (CA.out _).mono ?_
                  rintro e w1 ⟨rfl, hb1⟩
                  have hbw1 := (Below.alloc (Below.refl wo.heap.size wo) (Nat.le_refl _) _).trans (hb1.mono (by simp))
                  have hs1 : wo.heap.size < w1.heap.size := by have := hb1.size; simp at this; omega
                  have e0 : w1.cell? ⟨wo.heap.size, 0, none⟩ = some (.string _) := (hb1.cell (by simp)).trans (by simp; rfl)
                  have e1 : w1.cell? ⟨wo.heap.size, 1, none⟩ = some (.int .i64 _) := (hb1.cell (by simp)).trans (by simp; rfl)
                  have e2 : w1.cell? ⟨wo.heap.size, 2, none⟩ = some (.int .i64 _) := (hb1.cell (by simp)).trans (by simp; rfl)
                  have e3 : w1.cell? ⟨wo.heap.size, 3, none⟩ = some (.string _) := (hb1.cell (by simp)).trans (by simp; rfl)
                  have e4 : w1.cell? ⟨wo.heap.size, 4, none⟩ = some (.string _) := (hb1.cell (by simp)).trans (by simp; rfl)
                  have HBW := Lib.hid hbw1
                  clear hb1 hbw1 c2 c3 c4 c5 c6
                  have y0 := (HBW.out.cell hb2).trans hyp; clear hyp
                  go_wp2_with fail
                  go_quiet (fail)
                  obtain ⟨w2, hw2⟩ : ∃ wz, wz = World.drewN w1 nq := ⟨_, rfl⟩
                  rw [← hw2]
                  have hcw : ∀ a, World.cell? w2 a = World.cell? w1 a := fun a => by rw [hw2]; rfl
                  replace e0 := (hcw _).trans e0
                  replace e1 := (hcw _).trans e1
                  replace e2 := (hcw _).trans e2
                  replace e3 := (hcw _).trans e3
                  replace e4 := (hcw _).trans e4
                  replace HBW : Hid (Below wo.heap.size wo w2) := Lib.hid (by rw [hw2]; exact below_drewN HBW.out nq)
                  clear hw2 hcw
                  go_wp2_with fail
                  refine (CU.out _).mono ?_
                  rintro e w3 ⟨rfl, rfl⟩
                  go_wp2_with fail
                  refine (CF.out us _ HBW.out).mono ?_
                  rintro e w3 ⟨rfl, rfl⟩
                  rw [HFZ.out]
                  go_wp2
                  go_ret2
                  exact ⟨r, k, HC.out, congrArg Ending.returned (congrArg Value.tuple (by rw [HV.out]; rfl)), HB.out.trans ((by first | exact HBW.out | exact below_drewN HBW.out _ : Below wo.heap.size wo _).mono hbs)⟩
                | some ju =>
                  obtain ⟨hjuk, ou, hou, hfvu⟩ := findI_lt hfu
                  rw [hfvu] at hr2
                  have HFZ : Hid (findZ (l.take k) (L us) = ju) := Lib.hid (by rw [husL]; exact findZ_some hfu)
                  obtain ⟨b4, o4, i4, hb4, g4⟩ := it_at (HLW.out wo (Below.refl _ _)) 40 71 Tryz.underlying40 (by kernel_rfl) hou (ju : Int) rfl
                  rw [← HN.out] at i4
                  have HG4 := Lib.hid g4
                  by_cases k2 : ou.k = 2
                  · have u1 : (ou.k != 2) = false := by simp [k2]
                    simp only [] at hr2
                    rw [if_neg (fun h => h k2)] at hr2
                    -- have y0 := (HBW.out.cell hb2).trans hyp; clear hyp: behind alone; UPG: UP or UPF; hu hfu k2 hou hfvu g4 husL hlt2: what to clear
                    by_cases hs0 : L s = []
                    · have s0 := nil_empty hs0
                      replace hr2 : r = 0 := by rw [hr2, linkE, if_pos hs0]
                      have HV := Lib.hid hr2
                      clear hr2 hs0 hu hfu k2 hou hfvu g4 husL hlt2
                      go_wp2_with fail
                      refine (CA.out _).mono ?_
                      rintro e w1 ⟨rfl, hb1⟩
                      have hbw1 := (Below.alloc (Below.refl wo.heap.size wo) (Nat.le_refl _) _).trans (hb1.mono (by simp))
                      have hs1 : wo.heap.size < w1.heap.size := by have := hb1.size; simp at this; omega
                      have e0 : w1.cell? ⟨wo.heap.size, 0, none⟩ = some (.string _) := (hb1.cell (by simp)).trans (by simp; rfl)
                      have e1 : w1.cell? ⟨wo.heap.size, 1, none⟩ = some (.int .i64 _) := (hb1.cell (by simp)).trans (by simp; rfl)
                      have e2 : w1.cell? ⟨wo.heap.size, 2, none⟩ = some (.int .i64 _) := (hb1.cell (by simp)).trans (by simp; rfl)
                      have e3 : w1.cell? ⟨wo.heap.size, 3, none⟩ = some (.string _) := (hb1.cell (by simp)).trans (by simp; rfl)
                      have e4 : w1.cell? ⟨wo.heap.size, 4, none⟩ = some (.string _) := (hb1.cell (by simp)).trans (by simp; rfl)
                      have HBW := Lib.hid hbw1
                      clear hb1 hbw1 c2 c3 c4 c5 c6
                      have y0 := (HBW.out.cell hb2).trans hyp; clear hyp
                      go_wp2_with fail
                      go_quiet (fail)
                      obtain ⟨w2, hw2⟩ : ∃ wz, wz = World.drewN w1 nq := ⟨_, rfl⟩
                      rw [← hw2]
                      have hcw : ∀ a, World.cell? w2 a = World.cell? w1 a := fun a => by rw [hw2]; rfl
                      replace e0 := (hcw _).trans e0
                      replace e1 := (hcw _).trans e1
                      replace e2 := (hcw _).trans e2
                      replace e3 := (hcw _).trans e3
                      replace e4 := (hcw _).trans e4
                      replace HBW : Hid (Below wo.heap.size wo w2) := Lib.hid (by rw [hw2]; exact below_drewN HBW.out nq)
                      clear hw2 hcw
                      go_wp2_with fail
                      refine (CU.out _).mono ?_
                      rintro e w3 ⟨rfl, rfl⟩
                      go_wp2_with fail
                      refine (CF.out us _ HBW.out).mono ?_
                      rintro e w3 ⟨rfl, rfl⟩
                      rw [HFZ.out]
                      have f0' := (HG4.out.below HBW.out hb4).k
                      go_wp2_with fail
                      go_roundw
                      case rel => exact ⟨k + 1, by omega, by go_num, okTo_succ HOK.out (HR.out.symm.trans HV.out), HB.out.trans (HBW.out.mono hbs)⟩
                      case measure => simp [intOf]; omega
                    · have s0 := ne_empty hs0
                      rw [linkE, if_neg hs0] at hr2
                      simp only [] at hr2
                      cases hf : findI (l.take k) (L s) with
                      | none =>
                        rw [findV_no hf] at hr2
                        replace hr2 : r = 22 := hr2
                        have HFS := Lib.hid (findZ_none hf)
                        have HC : Hid (Chk l r k) := Lib.hid (.inr (.inr ⟨by rw [← HN.out]; exact hlt, HOK.out, HR.out, by rw [hr2]; decide⟩))
                        have HV := Lib.hid hr2
                        clear hr2 hs0 hf hu hfu k2 hou hfvu g4 husL hlt2
                        go_wp2_with fail
                        refine (CA.out _).mono ?_
                        rintro e w1 ⟨rfl, hb1⟩
                        have hbw1 := (Below.alloc (Below.refl wo.heap.size wo) (Nat.le_refl _) _).trans (hb1.mono (by simp))
                        have hs1 : wo.heap.size < w1.heap.size := by have := hb1.size; simp at this; omega
                        have e0 : w1.cell? ⟨wo.heap.size, 0, none⟩ = some (.string _) := (hb1.cell (by simp)).trans (by simp; rfl)
                        have e1 : w1.cell? ⟨wo.heap.size, 1, none⟩ = some (.int .i64 _) := (hb1.cell (by simp)).trans (by simp; rfl)
                        have e2 : w1.cell? ⟨wo.heap.size, 2, none⟩ = some (.int .i64 _) := (hb1.cell (by simp)).trans (by simp; rfl)
                        have e3 : w1.cell? ⟨wo.heap.size, 3, none⟩ = some (.string _) := (hb1.cell (by simp)).trans (by simp; rfl)
                        have e4 : w1.cell? ⟨wo.heap.size, 4, none⟩ = some (.string _) := (hb1.cell (by simp)).trans (by simp; rfl)
                        have HBW := Lib.hid hbw1
                        clear hb1 hbw1 c2 c3 c4 c5 c6
                        have y0 := (HBW.out.cell hb2).trans hyp; clear hyp
                        go_wp2_with fail
                        go_quiet (fail)
                        obtain ⟨w2, hw2⟩ : ∃ wz, wz = World.drewN w1 nq := ⟨_, rfl⟩
                        rw [← hw2]
                        have hcw : ∀ a, World.cell? w2 a = World.cell? w1 a := fun a => by rw [hw2]; rfl
                        replace e0 := (hcw _).trans e0
                        replace e1 := (hcw _).trans e1
                        replace e2 := (hcw _).trans e2
                        replace e3 := (hcw _).trans e3
                        replace e4 := (hcw _).trans e4
                        replace HBW : Hid (Below wo.heap.size wo w2) := Lib.hid (by rw [hw2]; exact below_drewN HBW.out nq)
                        clear hw2 hcw
                        go_wp2_with fail
                        refine (CU.out _).mono ?_
                        rintro e w3 ⟨rfl, rfl⟩
                        go_wp2_with fail
                        refine (CF.out us _ HBW.out).mono ?_
                        rintro e w3 ⟨rfl, rfl⟩
                        rw [HFZ.out]
                        have f0' := (HG4.out.below HBW.out hb4).k
                        go_wp2_with fail
                        have CQ : Hid (∀ n', Calls Tryz.prog 24 #[vt, .string s] (World.drewN w2 n') fun e w' => e = .returned (.int .i64 (findZ (l.take k) (L s))) ∧ w' = World.drewN w2 n') := Lib.hid fun n' => (CF.out s _ (below_drewN HBW.out n')).mono fun e w' h => ⟨h.1, h.2.symm⟩
                        rw [HFS.out] at CQ
                        go_quiet ((go_at_call 24; with_reducible exact Calls.quiet_of_same (CQ.out _)))
                        obtain ⟨w3, hw2⟩ : ∃ wz, wz = World.drewN w2 nq := ⟨_, rfl⟩
                        rw [← hw2]
                        have hcw : ∀ a, World.cell? w3 a = World.cell? w2 a := fun a => by rw [hw2]; rfl
                        replace e0 := (hcw _).trans e0
                        replace e1 := (hcw _).trans e1
                        replace e2 := (hcw _).trans e2
                        replace e3 := (hcw _).trans e3
                        replace e4 := (hcw _).trans e4
                        replace HBW : Hid (Below wo.heap.size wo w3) := Lib.hid (by rw [hw2]; exact below_drewN HBW.out nq)
                        clear hw2 hcw
                        go_wp2_with fail
                        go_quiet (fail)
                        go_wp2
                        go_ret2
                        exact ⟨r, k, HC.out, congrArg Ending.returned (congrArg Value.tuple (by rw [HV.out]; rfl)), HB.out.trans ((by first | exact HBW.out | exact below_drewN HBW.out _ : Below wo.heap.size wo _).mono hbs)⟩
                      | some j =>
                        obtain ⟨hjk, o, ho, hfv⟩ := findI_lt hf
                        rw [hfv] at hr2
                        have HFS := Lib.hid (findZ_some hf)
                        obtain ⟨b3, o3, i3, hb3, g3⟩ := it_at (HLW.out wo (Below.refl _ _)) 40 71 Tryz.underlying40 (by kernel_rfl) ho (j : Int) rfl
                        rw [← HN.out] at i3
                        have hjn : decide ((j : Int) < 0) = false := by simp
                        obtain ⟨op, ok, om, od, os⟩ := o
                        have HG3 := Lib.hid g3
                        simp only [] at hr2
                        by_cases k1 : ok = 1
                        · have t1 : (ok != 1) = false := by simp [k1]
                          by_cases so : L os = []
                          · have t2 := nil_empty so
                            by_cases mm : om = m
                            · have t3 : (om != m) = false := by simp [mm]
                              by_cases dd : L d = []
                              · have t4 := nil_empty dd
                                replace hr2 : r = 0 := by rw [hr2, if_neg (by simp [k1, so, mm, dd])]
                                have HV := Lib.hid hr2
                                clear hr2 hs0 hf k1 so mm dd ho hfv g3 hu hfu k2 hou hfvu g4 husL hlt2
                                go_wp2_with fail
                                refine (CA.out _).mono ?_
                                rintro e w1 ⟨rfl, hb1⟩
                                have hbw1 := (Below.alloc (Below.refl wo.heap.size wo) (Nat.le_refl _) _).trans (hb1.mono (by simp))
                                have hs1 : wo.heap.size < w1.heap.size := by have := hb1.size; simp at this; omega
                                have e0 : w1.cell? ⟨wo.heap.size, 0, none⟩ = some (.string _) := (hb1.cell (by simp)).trans (by simp; rfl)
                                have e1 : w1.cell? ⟨wo.heap.size, 1, none⟩ = some (.int .i64 _) := (hb1.cell (by simp)).trans (by simp; rfl)
                                have e2 : w1.cell? ⟨wo.heap.size, 2, none⟩ = some (.int .i64 _) := (hb1.cell (by simp)).trans (by simp; rfl)
                                have e3 : w1.cell? ⟨wo.heap.size, 3, none⟩ = some (.string _) := (hb1.cell (by simp)).trans (by simp; rfl)
                                have e4 : w1.cell? ⟨wo.heap.size, 4, none⟩ = some (.string _) := (hb1.cell (by simp)).trans (by simp; rfl)
                                have HBW := Lib.hid hbw1
                                clear hb1 hbw1 c2 c3 c4 c5 c6
                                have y0 := (HBW.out.cell hb2).trans hyp; clear hyp
                                go_wp2_with fail
                                go_quiet (fail)
                                obtain ⟨w2, hw2⟩ : ∃ wz, wz = World.drewN w1 nq := ⟨_, rfl⟩
                                rw [← hw2]
                                have hcw : ∀ a, World.cell? w2 a = World.cell? w1 a := fun a => by rw [hw2]; rfl
                                replace e0 := (hcw _).trans e0
                                replace e1 := (hcw _).trans e1
                                replace e2 := (hcw _).trans e2
                                replace e3 := (hcw _).trans e3
                                replace e4 := (hcw _).trans e4
                                replace HBW : Hid (Below wo.heap.size wo w2) := Lib.hid (by rw [hw2]; exact below_drewN HBW.out nq)
                                clear hw2 hcw
                                go_wp2_with fail
                                refine (CU.out _).mono ?_
                                rintro e w3 ⟨rfl, rfl⟩
                                go_wp2_with fail
                                refine (CF.out us _ HBW.out).mono ?_
                                rintro e w3 ⟨rfl, rfl⟩
                                rw [HFZ.out]
                                have f0' := (HG4.out.below HBW.out hb4).k
                                go_wp2_with fail
                                have CQ : Hid (∀ n', Calls Tryz.prog 24 #[vt, .string s] (World.drewN w2 n') fun e w' => e = .returned (.int .i64 (findZ (l.take k) (L s))) ∧ w' = World.drewN w2 n') := Lib.hid fun n' => (CF.out s _ (below_drewN HBW.out n')).mono fun e w' h => ⟨h.1, h.2.symm⟩
                                rw [HFS.out] at CQ
                                go_quiet ((go_at_call 24; with_reducible exact Calls.quiet_of_same (CQ.out _)))
                                obtain ⟨w3, hw2⟩ : ∃ wz, wz = World.drewN w2 nq := ⟨_, rfl⟩
                                rw [← hw2]
                                have hcw : ∀ a, World.cell? w3 a = World.cell? w2 a := fun a => by rw [hw2]; rfl
                                replace e0 := (hcw _).trans e0
                                replace e1 := (hcw _).trans e1
                                replace e2 := (hcw _).trans e2
                                replace e3 := (hcw _).trans e3
                                replace e4 := (hcw _).trans e4
                                replace HBW : Hid (Below wo.heap.size wo w3) := Lib.hid (by rw [hw2]; exact below_drewN HBW.out nq)
                                clear hw2 hcw
                                have f1' := (HG3.out.below HBW.out hb3).k
                                have f2' := (HG3.out.below HBW.out hb3).s
                                have f3' := (HG3.out.below HBW.out hb3).m
                                simp only [] at f1' f2' f3'
                                go_wp2_with fail
                                go_quiet (fail)
                                go_wp2
                                go_roundw
                                case rel => exact ⟨k + 1, by omega, by go_num, okTo_succ HOK.out (HR.out.symm.trans HV.out), HB.out.trans ((below_drewN HBW.out _).mono hbs)⟩
                                case measure => simp [intOf]; omega
                              · have t4 := ne_empty dd
                                rw [if_pos (.inr (.inr (.inr dd)))] at hr2
                                have HC : Hid (Chk l r k) := Lib.hid (.inr (.inr ⟨by rw [← HN.out]; exact hlt, HOK.out, HR.out, by rw [hr2]; decide⟩))
                                have HV := Lib.hid hr2
                                clear hr2 hs0 hf k1 so mm dd ho hfv g3 hu hfu k2 hou hfvu g4 husL hlt2
                                go_wp2_with fail
                                refine (CA.out _).mono ?_
                                rintro e w1 ⟨rfl, hb1⟩
                                have hbw1 := (Below.alloc (Below.refl wo.heap.size wo) (Nat.le_refl _) _).trans (hb1.mono (by simp))
                                have hs1 : wo.heap.size < w1.heap.size := by have := hb1.size; simp at this; omega
                                have e0 : w1.cell? ⟨wo.heap.size, 0, none⟩ = some (.string _) := (hb1.cell (by simp)).trans (by simp; rfl)
                                have e1 : w1.cell? ⟨wo.heap.size, 1, none⟩ = some (.int .i64 _) := (hb1.cell (by simp)).trans (by simp; rfl)
                                have e2 : w1.cell? ⟨wo.heap.size, 2, none⟩ = some (.int .i64 _) := (hb1.cell (by simp)).trans (by simp; rfl)
                                have e3 : w1.cell? ⟨wo.heap.size, 3, none⟩ = some (.string _) := (hb1.cell (by simp)).trans (by simp; rfl)
                                have e4 : w1.cell? ⟨wo.heap.size, 4, none⟩ = some (.string _) := (hb1.cell (by simp)).trans (by simp; rfl)
                                have HBW := Lib.hid hbw1
                                clear hb1 hbw1 c2 c3 c4 c5 c6
                                have y0 := (HBW.out.cell hb2).trans hyp; clear hyp
                                go_wp2_with fail
                                go_quiet (fail)
                                obtain ⟨w2, hw2⟩ : ∃ wz, wz = World.drewN w1 nq := ⟨_, rfl⟩
                                rw [← hw2]
                                have hcw : ∀ a, World.cell? w2 a = World.cell? w1 a := fun a => by rw [hw2]; rfl
                                replace e0 := (hcw _).trans e0
                                replace e1 := (hcw _).trans e1
                                replace e2 := (hcw _).trans e2
                                replace e3 := (hcw _).trans e3
                                replace e4 := (hcw _).trans e4
                                replace HBW : Hid (Below wo.heap.size wo w2) := Lib.hid (by rw [hw2]; exact below_drewN HBW.out nq)
                                clear hw2 hcw
                                go_wp2_with fail
                                refine (CU.out _).mono ?_
                                rintro e w3 ⟨rfl, rfl⟩
                                go_wp2_with fail
                                refine (CF.out us _ HBW.out).mono ?_
                                rintro e w3 ⟨rfl, rfl⟩
                                rw [HFZ.out]
                                have f0' := (HG4.out.below HBW.out hb4).k
                                go_wp2_with fail
                                have CQ : Hid (∀ n', Calls Tryz.prog 24 #[vt, .string s] (World.drewN w2 n') fun e w' => e = .returned (.int .i64 (findZ (l.take k) (L s))) ∧ w' = World.drewN w2 n') := Lib.hid fun n' => (CF.out s _ (below_drewN HBW.out n')).mono fun e w' h => ⟨h.1, h.2.symm⟩
                                rw [HFS.out] at CQ
                                go_quiet ((go_at_call 24; with_reducible exact Calls.quiet_of_same (CQ.out _)))
                                obtain ⟨w3, hw2⟩ : ∃ wz, wz = World.drewN w2 nq := ⟨_, rfl⟩
                                rw [← hw2]
                                have hcw : ∀ a, World.cell? w3 a = World.cell? w2 a := fun a => by rw [hw2]; rfl
                                replace e0 := (hcw _).trans e0
                                replace e1 := (hcw _).trans e1
                                replace e2 := (hcw _).trans e2
                                replace e3 := (hcw _).trans e3
                                replace e4 := (hcw _).trans e4
                                replace HBW : Hid (Below wo.heap.size wo w3) := Lib.hid (by rw [hw2]; exact below_drewN HBW.out nq)
                                clear hw2 hcw
                                have f1' := (HG3.out.below HBW.out hb3).k
                                have f2' := (HG3.out.below HBW.out hb3).s
                                have f3' := (HG3.out.below HBW.out hb3).m
                                simp only [] at f1' f2' f3'
                                go_wp2_with fail
                                go_quiet (fail)
                                go_wp2
                                go_ret2
                                exact ⟨r, k, HC.out, congrArg Ending.returned (congrArg Value.tuple (by rw [HV.out]; rfl)), HB.out.trans ((by first | exact HBW.out | exact below_drewN HBW.out _ : Below wo.heap.size wo _).mono hbs)⟩
                            · have t3 : (om != m) = true := by simpa using mm
                              rw [if_pos (.inr (.inr (.inl mm)))] at hr2
                              have HC : Hid (Chk l r k) := Lib.hid (.inr (.inr ⟨by rw [← HN.out]; exact hlt, HOK.out, HR.out, by rw [hr2]; decide⟩))
                              have HV := Lib.hid hr2
                              clear hr2 hs0 hf k1 so mm ho hfv g3 hu hfu k2 hou hfvu g4 husL hlt2
                              go_wp2_with fail
                              refine (CA.out _).mono ?_
                              rintro e w1 ⟨rfl, hb1⟩
                              have hbw1 := (Below.alloc (Below.refl wo.heap.size wo) (Nat.le_refl _) _).trans (hb1.mono (by simp))
                              have hs1 : wo.heap.size < w1.heap.size := by have := hb1.size; simp at this; omega
                              have e0 : w1.cell? ⟨wo.heap.size, 0, none⟩ = some (.string _) := (hb1.cell (by simp)).trans (by simp; rfl)
                              have e1 : w1.cell? ⟨wo.heap.size, 1, none⟩ = some (.int .i64 _) := (hb1.cell (by simp)).trans (by simp; rfl)
                              have e2 : w1.cell? ⟨wo.heap.size, 2, none⟩ = some (.int .i64 _) := (hb1.cell (by simp)).trans (by simp; rfl)
                              have e3 : w1.cell? ⟨wo.heap.size, 3, none⟩ = some (.string _) := (hb1.cell (by simp)).trans (by simp; rfl)
                              have e4 : w1.cell? ⟨wo.heap.size, 4, none⟩ = some (.string _) := (hb1.cell (by simp)).trans (by simp; rfl)
                              have HBW := Lib.hid hbw1
                              clear hb1 hbw1 c2 c3 c4 c5 c6
                              have y0 := (HBW.out.cell hb2).trans hyp; clear hyp
                              go_wp2_with fail
                              go_quiet (fail)
                              obtain ⟨w2, hw2⟩ : ∃ wz, wz = World.drewN w1 nq := ⟨_, rfl⟩
                              rw [← hw2]
                              have hcw : ∀ a, World.cell? w2 a = World.cell? w1 a := fun a => by rw [hw2]; rfl
                              replace e0 := (hcw _).trans e0
                              replace e1 := (hcw _).trans e1
                              replace e2 := (hcw _).trans e2
                              replace e3 := (hcw _).trans e3
                              replace e4 := (hcw _).trans e4
                              replace HBW : Hid (Below wo.heap.size wo w2) := Lib.hid (by rw [hw2]; exact below_drewN HBW.out nq)
                              clear hw2 hcw
                              go_wp2_with fail
                              refine (CU.out _).mono ?_
                              rintro e w3 ⟨rfl, rfl⟩
                              go_wp2_with fail
                              refine (CF.out us _ HBW.out).mono ?_
                              rintro e w3 ⟨rfl, rfl⟩
                              rw [HFZ.out]
                              have f0' := (HG4.out.below HBW.out hb4).k
                              go_wp2_with fail
                              have CQ : Hid (∀ n', Calls Tryz.prog 24 #[vt, .string s] (World.drewN w2 n') fun e w' => e = .returned (.int .i64 (findZ (l.take k) (L s))) ∧ w' = World.drewN w2 n') := Lib.hid fun n' => (CF.out s _ (below_drewN HBW.out n')).mono fun e w' h => ⟨h.1, h.2.symm⟩
                              rw [HFS.out] at CQ
                              go_quiet ((go_at_call 24; with_reducible exact Calls.quiet_of_same (CQ.out _)))
                              obtain ⟨w3, hw2⟩ : ∃ wz, wz = World.drewN w2 nq := ⟨_, rfl⟩
                              rw [← hw2]
                              have hcw : ∀ a, World.cell? w3 a = World.cell? w2 a := fun a => by rw [hw2]; rfl
                              replace e0 := (hcw _).trans e0
                              replace e1 := (hcw _).trans e1
                              replace e2 := (hcw _).trans e2
                              replace e3 := (hcw _).trans e3
                              replace e4 := (hcw _).trans e4
                              replace HBW : Hid (Below wo.heap.size wo w3) := Lib.hid (by rw [hw2]; exact below_drewN HBW.out nq)
                              clear hw2 hcw
                              have f1' := (HG3.out.below HBW.out hb3).k
                              have f2' := (HG3.out.below HBW.out hb3).s
                              have f3' := (HG3.out.below HBW.out hb3).m
                              simp only [] at f1' f2' f3'
                              go_wp2_with fail
                              go_quiet (fail)
                              go_wp2
                              go_ret2
                              exact ⟨r, k, HC.out, congrArg Ending.returned (congrArg Value.tuple (by rw [HV.out]; rfl)), HB.out.trans ((by first | exact HBW.out | exact below_drewN HBW.out _ : Below wo.heap.size wo _).mono hbs)⟩
                          · have t2 := ne_empty so
                            rw [if_pos (.inr (.inl so))] at hr2
                            have HC : Hid (Chk l r k) := Lib.hid (.inr (.inr ⟨by rw [← HN.out]; exact hlt, HOK.out, HR.out, by rw [hr2]; decide⟩))
                            have HV := Lib.hid hr2
                            clear hr2 hs0 hf k1 so ho hfv g3 hu hfu k2 hou hfvu g4 husL hlt2
                            go_wp2_with fail
                            refine (CA.out _).mono ?_
                            rintro e w1 ⟨rfl, hb1⟩
                            have hbw1 := (Below.alloc (Below.refl wo.heap.size wo) (Nat.le_refl _) _).trans (hb1.mono (by simp))
                            have hs1 : wo.heap.size < w1.heap.size := by have := hb1.size; simp at this; omega
                            have e0 : w1.cell? ⟨wo.heap.size, 0, none⟩ = some (.string _) := (hb1.cell (by simp)).trans (by simp; rfl)
                            have e1 : w1.cell? ⟨wo.heap.size, 1, none⟩ = some (.int .i64 _) := (hb1.cell (by simp)).trans (by simp; rfl)
                            have e2 : w1.cell? ⟨wo.heap.size, 2, none⟩ = some (.int .i64 _) := (hb1.cell (by simp)).trans (by simp; rfl)
                            have e3 : w1.cell? ⟨wo.heap.size, 3, none⟩ = some (.string _) := (hb1.cell (by simp)).trans (by simp; rfl)
                            have e4 : w1.cell? ⟨wo.heap.size, 4, none⟩ = some (.string _) := (hb1.cell (by simp)).trans (by simp; rfl)
                            have HBW := Lib.hid hbw1
                            clear hb1 hbw1 c2 c3 c4 c5 c6
                            have y0 := (HBW.out.cell hb2).trans hyp; clear hyp
                            go_wp2_with fail
                            go_quiet (fail)
                            obtain ⟨w2, hw2⟩ : ∃ wz, wz = World.drewN w1 nq := ⟨_, rfl⟩
                            rw [← hw2]
                            have hcw : ∀ a, World.cell? w2 a = World.cell? w1 a := fun a => by rw [hw2]; rfl
                            replace e0 := (hcw _).trans e0
                            replace e1 := (hcw _).trans e1
                            replace e2 := (hcw _).trans e2
                            replace e3 := (hcw _).trans e3
                            replace e4 := (hcw _).trans e4
                            replace HBW : Hid (Below wo.heap.size wo w2) := Lib.hid (by rw [hw2]; exact below_drewN HBW.out nq)
                            clear hw2 hcw
                            go_wp2_with fail
                            refine (CU.out _).mono ?_
                            rintro e w3 ⟨rfl, rfl⟩
                            go_wp2_with fail
                            refine (CF.out us _ HBW.out).mono ?_
                            rintro e w3 ⟨rfl, rfl⟩
                            rw [HFZ.out]
                            have f0' := (HG4.out.below HBW.out hb4).k
                            go_wp2_with fail
                            have CQ : Hid (∀ n', Calls Tryz.prog 24 #[vt, .string s] (World.drewN w2 n') fun e w' => e = .returned (.int .i64 (findZ (l.take k) (L s))) ∧ w' = World.drewN w2 n') := Lib.hid fun n' => (CF.out s _ (below_drewN HBW.out n')).mono fun e w' h => ⟨h.1, h.2.symm⟩
                            rw [HFS.out] at CQ
                            go_quiet ((go_at_call 24; with_reducible exact Calls.quiet_of_same (CQ.out _)))
                            obtain ⟨w3, hw2⟩ : ∃ wz, wz = World.drewN w2 nq := ⟨_, rfl⟩
                            rw [← hw2]
                            have hcw : ∀ a, World.cell? w3 a = World.cell? w2 a := fun a => by rw [hw2]; rfl
                            replace e0 := (hcw _).trans e0
                            replace e1 := (hcw _).trans e1
                            replace e2 := (hcw _).trans e2
                            replace e3 := (hcw _).trans e3
                            replace e4 := (hcw _).trans e4
                            replace HBW : Hid (Below wo.heap.size wo w3) := Lib.hid (by rw [hw2]; exact below_drewN HBW.out nq)
                            clear hw2 hcw
                            have f1' := (HG3.out.below HBW.out hb3).k
                            have f2' := (HG3.out.below HBW.out hb3).s
                            have f3' := (HG3.out.below HBW.out hb3).m
                            simp only [] at f1' f2' f3'
                            go_wp2_with fail
                            go_quiet (fail)
                            go_wp2
                            go_ret2
                            exact ⟨r, k, HC.out, congrArg Ending.returned (congrArg Value.tuple (by rw [HV.out]; rfl)), HB.out.trans ((by first | exact HBW.out | exact below_drewN HBW.out _ : Below wo.heap.size wo _).mono hbs)⟩
                        · have t1 : (ok != 1) = true := by simpa using k1
                          rw [if_pos (.inl k1)] at hr2
                          have HC : Hid (Chk l r k) := Lib.hid (.inr (.inr ⟨by rw [← HN.out]; exact hlt, HOK.out, HR.out, by rw [hr2]; decide⟩))
                          have HV := Lib.hid hr2
                          clear hr2 hs0 hf k1 ho hfv g3 hu hfu k2 hou hfvu g4 husL hlt2
                          go_wp2_with fail
                          refine (CA.out _).mono ?_
                          rintro e w1 ⟨rfl, hb1⟩
                          have hbw1 := (Below.alloc (Below.refl wo.heap.size wo) (Nat.le_refl _) _).trans (hb1.mono (by simp))
                          have hs1 : wo.heap.size < w1.heap.size := by have := hb1.size; simp at this; omega
                          have e0 : w1.cell? ⟨wo.heap.size, 0, none⟩ = some (.string _) := (hb1.cell (by simp)).trans (by simp; rfl)
                          have e1 : w1.cell? ⟨wo.heap.size, 1, none⟩ = some (.int .i64 _) := (hb1.cell (by simp)).trans (by simp; rfl)
                          have e2 : w1.cell? ⟨wo.heap.size, 2, none⟩ = some (.int .i64 _) := (hb1.cell (by simp)).trans (by simp; rfl)
                          have e3 : w1.cell? ⟨wo.heap.size, 3, none⟩ = some (.string _) := (hb1.cell (by simp)).trans (by simp; rfl)
                          have e4 : w1.cell? ⟨wo.heap.size, 4, none⟩ = some (.string _) := (hb1.cell (by simp)).trans (by simp; rfl)
                          have HBW := Lib.hid hbw1
                          clear hb1 hbw1 c2 c3 c4 c5 c6
                          have y0 := (HBW.out.cell hb2).trans hyp; clear hyp
                          go_wp2_with fail
                          go_quiet (fail)
                          obtain ⟨w2, hw2⟩ : ∃ wz, wz = World.drewN w1 nq := ⟨_, rfl⟩
                          rw [← hw2]
                          have hcw : ∀ a, World.cell? w2 a = World.cell? w1 a := fun a => by rw [hw2]; rfl
                          replace e0 := (hcw _).trans e0
                          replace e1 := (hcw _).trans e1
                          replace e2 := (hcw _).trans e2
                          replace e3 := (hcw _).trans e3
                          replace e4 := (hcw _).trans e4
                          replace HBW : Hid (Below wo.heap.size wo w2) := Lib.hid (by rw [hw2]; exact below_drewN HBW.out nq)
                          clear hw2 hcw
                          go_wp2_with fail
                          refine (CU.out _).mono ?_
                          rintro e w3 ⟨rfl, rfl⟩
                          go_wp2_with fail
                          refine (CF.out us _ HBW.out).mono ?_
                          rintro e w3 ⟨rfl, rfl⟩
                          rw [HFZ.out]
                          have f0' := (HG4.out.below HBW.out hb4).k
                          go_wp2_with fail
                          have CQ : Hid (∀ n', Calls Tryz.prog 24 #[vt, .string s] (World.drewN w2 n') fun e w' => e = .returned (.int .i64 (findZ (l.take k) (L s))) ∧ w' = World.drewN w2 n') := Lib.hid fun n' => (CF.out s _ (below_drewN HBW.out n')).mono fun e w' h => ⟨h.1, h.2.symm⟩
                          rw [HFS.out] at CQ
                          go_quiet ((go_at_call 24; with_reducible exact Calls.quiet_of_same (CQ.out _)))
                          obtain ⟨w3, hw2⟩ : ∃ wz, wz = World.drewN w2 nq := ⟨_, rfl⟩
                          rw [← hw2]
                          have hcw : ∀ a, World.cell? w3 a = World.cell? w2 a := fun a => by rw [hw2]; rfl
                          replace e0 := (hcw _).trans e0
                          replace e1 := (hcw _).trans e1
                          replace e2 := (hcw _).trans e2
                          replace e3 := (hcw _).trans e3
                          replace e4 := (hcw _).trans e4
                          replace HBW : Hid (Below wo.heap.size wo w3) := Lib.hid (by rw [hw2]; exact below_drewN HBW.out nq)
                          clear hw2 hcw
                          have f1' := (HG3.out.below HBW.out hb3).k
                          have f2' := (HG3.out.below HBW.out hb3).s
                          have f3' := (HG3.out.below HBW.out hb3).m
                          simp only [] at f1' f2' f3'
                          go_wp2_with fail
                          go_quiet (fail)
                          go_wp2
                          go_ret2
                          exact ⟨r, k, HC.out, congrArg Ending.returned (congrArg Value.tuple (by rw [HV.out]; rfl)), HB.out.trans ((by first | exact HBW.out | exact below_drewN HBW.out _ : Below wo.heap.size wo _).mono hbs)⟩
                  · have u1 : (ou.k != 2) = true := by simpa using k2
                    simp only [] at hr2
                    rw [if_pos k2] at hr2
                    have HC : Hid (Chk l r k) := Lib.hid (.inr (.inr ⟨by rw [← HN.out]; exact hlt, HOK.out, HR.out, by rw [hr2]; decide⟩))
                    have HV := Lib.hid hr2
                    clear hr2 hu hfu k2 hou hfvu g4 husL hlt2
                    go_wp2_with fail
                    refine (CA.out _).mono ?_
                    rintro e w1 ⟨rfl, hb1⟩
                    have hbw1 := (Below.alloc (Below.refl wo.heap.size wo) (Nat.le_refl _) _).trans (hb1.mono (by simp))
                    have hs1 : wo.heap.size < w1.heap.size := by have := hb1.size; simp at this; omega
                    have e0 : w1.cell? ⟨wo.heap.size, 0, none⟩ = some (.string _) := (hb1.cell (by simp)).trans (by simp; rfl)
                    have e1 : w1.cell? ⟨wo.heap.size, 1, none⟩ = some (.int .i64 _) := (hb1.cell (by simp)).trans (by simp; rfl)
                    have e2 : w1.cell? ⟨wo.heap.size, 2, none⟩ = some (.int .i64 _) := (hb1.cell (by simp)).trans (by simp; rfl)
                    have e3 : w1.cell? ⟨wo.heap.size, 3, none⟩ = some (.string _) := (hb1.cell (by simp)).trans (by simp; rfl)
                    have e4 : w1.cell? ⟨wo.heap.size, 4, none⟩ = some (.string _) := (hb1.cell (by simp)).trans (by simp; rfl)
                    have HBW := Lib.hid hbw1
                    clear hb1 hbw1 c2 c3 c4 c5 c6
                    have y0 := (HBW.out.cell hb2).trans hyp; clear hyp
                    go_wp2_with fail
                    go_quiet (fail)
                    obtain ⟨w2, hw2⟩ : ∃ wz, wz = World.drewN w1 nq := ⟨_, rfl⟩
                    rw [← hw2]
                    have hcw : ∀ a, World.cell? w2 a = World.cell? w1 a := fun a => by rw [hw2]; rfl
                    replace e0 := (hcw _).trans e0
                    replace e1 := (hcw _).trans e1
                    replace e2 := (hcw _).trans e2
                    replace e3 := (hcw _).trans e3
                    replace e4 := (hcw _).trans e4
                    replace HBW : Hid (Below wo.heap.size wo w2) := Lib.hid (by rw [hw2]; exact below_drewN HBW.out nq)
                    clear hw2 hcw
                    go_wp2_with fail
                    refine (CU.out _).mono ?_
                    rintro e w3 ⟨rfl, rfl⟩
                    go_wp2_with fail
                    refine (CF.out us _ HBW.out).mono ?_
                    rintro e w3 ⟨rfl, rfl⟩
                    rw [HFZ.out]
                    have f0' := (HG4.out.below HBW.out hb4).k
                    go_wp2
                    go_ret2
                    exact ⟨r, k, HC.out, congrArg Ending.returned (congrArg Value.tuple (by rw [HV.out]; rfl)), HB.out.trans ((by first | exact HBW.out | exact below_drewN HBW.out _ : Below wo.heap.size wo _).mono hbs)⟩
            · rw [if_pos hlt2] at hr2
              have hor := bytes_le hlt2
              rw [← toList_L, ← toList_L] at hor
              have HC : Hid (Chk l r k) := Lib.hid (.inr (.inr ⟨by rw [← HN.out]; exact hlt, HOK.out, HR.out, by rw [hr2]; decide⟩))
              have HV := Lib.hid hr2
              clear hr2 hlt2 husL
              obtain ⟨f1, hf1⟩ : ∃ b, Op.bytesLess p.toList y.p.toList = b := ⟨_, rfl⟩
              obtain ⟨f2, hf2⟩ : ∃ b, (p.toList == y.p.toList) = b := ⟨_, rfl⟩
              rw [hf1, hf2] at hor
              cases f1
              · cases f2
                · simp at hor
                · clear hor
                  go_wp2_with fail
                  refine (CA.out _).mono ?_
                  rintro e w1 ⟨rfl, hb1⟩
                  have hbw1 := (Below.alloc (Below.refl wo.heap.size wo) (Nat.le_refl _) _).trans (hb1.mono (by simp))
                  have hs1 : wo.heap.size < w1.heap.size := by have := hb1.size; simp at this; omega
                  have e0 : w1.cell? ⟨wo.heap.size, 0, none⟩ = some (.string _) := (hb1.cell (by simp)).trans (by simp; rfl)
                  have e1 : w1.cell? ⟨wo.heap.size, 1, none⟩ = some (.int .i64 _) := (hb1.cell (by simp)).trans (by simp; rfl)
                  have e2 : w1.cell? ⟨wo.heap.size, 2, none⟩ = some (.int .i64 _) := (hb1.cell (by simp)).trans (by simp; rfl)
                  have e3 : w1.cell? ⟨wo.heap.size, 3, none⟩ = some (.string _) := (hb1.cell (by simp)).trans (by simp; rfl)
                  have e4 : w1.cell? ⟨wo.heap.size, 4, none⟩ = some (.string _) := (hb1.cell (by simp)).trans (by simp; rfl)
                  have HBW := Lib.hid hbw1
                  clear hb1 hbw1 c2 c3 c4 c5 c6
                  have y0 := (HBW.out.cell hb2).trans hyp; clear hyp
                  go_wp2_with fail
                  go_quiet (fail)
                  go_wp2
                  go_ret2
                  exact ⟨r, k, HC.out, congrArg Ending.returned (congrArg Value.tuple (by rw [HV.out]; rfl)), HB.out.trans ((by first | exact HBW.out | exact below_drewN HBW.out _ : Below wo.heap.size wo _).mono hbs)⟩
              · clear hor
                cases f2
                all_goals
                  go_wp2_with fail
                  refine (CA.out _).mono ?_
                  rintro e w1 ⟨rfl, hb1⟩
                  have hbw1 := (Below.alloc (Below.refl wo.heap.size wo) (Nat.le_refl _) _).trans (hb1.mono (by simp))
                  have hs1 : wo.heap.size < w1.heap.size := by have := hb1.size; simp at this; omega
                  have e0 : w1.cell? ⟨wo.heap.size, 0, none⟩ = some (.string _) := (hb1.cell (by simp)).trans (by simp; rfl)
                  have e1 : w1.cell? ⟨wo.heap.size, 1, none⟩ = some (.int .i64 _) := (hb1.cell (by simp)).trans (by simp; rfl)
                  have e2 : w1.cell? ⟨wo.heap.size, 2, none⟩ = some (.int .i64 _) := (hb1.cell (by simp)).trans (by simp; rfl)
                  have e3 : w1.cell? ⟨wo.heap.size, 3, none⟩ = some (.string _) := (hb1.cell (by simp)).trans (by simp; rfl)
                  have e4 : w1.cell? ⟨wo.heap.size, 4, none⟩ = some (.string _) := (hb1.cell (by simp)).trans (by simp; rfl)
                  have HBW := Lib.hid hbw1
                  clear hb1 hbw1 c2 c3 c4 c5 c6
                  have y0 := (HBW.out.cell hb2).trans hyp; clear hyp
                  go_wp2_with fail
                  go_quiet (fail)
                  go_wp2
                  go_ret2
                  exact ⟨r, k, HC.out, congrArg Ending.returned (congrArg Value.tuple (by rw [HV.out]; rfl)), HB.out.trans ((by first | exact HBW.out | exact below_drewN HBW.out _ : Below wo.heap.size wo _).mono hbs)⟩
        · rw [if_pos hq0] at hr2
          have hne : (q != 0) = true := by simpa using hq0
          have HC : Hid (Chk l r k) := Lib.hid (.inr (.inr ⟨by rw [← HN.out]; exact hlt, HOK.out, HR.out, by rw [hr2]; exact hq0⟩))
          have HV := Lib.hid hr2
          clear hr2 hq0 hpl husL
          go_wp2_with fail
          refine (CA.out _).mono ?_
          rintro e w1 ⟨rfl, hb1⟩
          have hbw1 := (Below.alloc (Below.refl wo.heap.size wo) (Nat.le_refl _) _).trans (hb1.mono (by simp))
          have hs1 : wo.heap.size < w1.heap.size := by have := hb1.size; simp at this; omega
          have e0 : w1.cell? ⟨wo.heap.size, 0, none⟩ = some (.string _) := (hb1.cell (by simp)).trans (by simp; rfl)
          have e1 : w1.cell? ⟨wo.heap.size, 1, none⟩ = some (.int .i64 _) := (hb1.cell (by simp)).trans (by simp; rfl)
          have e2 : w1.cell? ⟨wo.heap.size, 2, none⟩ = some (.int .i64 _) := (hb1.cell (by simp)).trans (by simp; rfl)
          have e3 : w1.cell? ⟨wo.heap.size, 3, none⟩ = some (.string _) := (hb1.cell (by simp)).trans (by simp; rfl)
          have e4 : w1.cell? ⟨wo.heap.size, 4, none⟩ = some (.string _) := (hb1.cell (by simp)).trans (by simp; rfl)
          have HBW := Lib.hid hbw1
          clear hb1 hbw1 c2 c3 c4 c5 c6
          go_wp2
          go_ret2
          exact ⟨r, k, HC.out, congrArg Ending.returned (congrArg Value.tuple (by rw [HV.out]; rfl)), HB.out.trans ((by first | exact HBW.out | exact below_drewN HBW.out _ : Below wo.heap.size wo _).mono hbs)⟩
      · obtain rfl : k = n := by omega
        have HC : Hid (Chk l 0 0) := Lib.hid (.inr (.inl ⟨HNE.out, by rw [← HN.out]; exact hok, rfl, rfl⟩))
        have HB := Lib.hid hb
        clear hok hb
        go_wp2_with fail
        go_ret2
        exact ⟨0, 0, HC.out, rfl, HB.out⟩
end Go.Proofs.YtmlgmedapbeleaaGreatDoor
