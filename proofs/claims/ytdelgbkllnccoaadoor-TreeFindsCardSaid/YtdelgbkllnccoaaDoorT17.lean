/-
  A tree that is a part of another one: what it means; the walk of Part.
-/
import Derived.Test.YtdelgbkllnccoaaDoorT16
import Derived.Test.YtdelgbkllnccoaaDoorSlTo
namespace Go.Proofs.YtdelgbkllnccoaaDoor
open Go.RowKit

def C1 (a t : List It) (x : It) : Prop := ∃ o, findV t (L x.p) = some o ∧ o.k = x.k ∧ contS t o = contS a x
def P2 (t : List It) (x y : It) : Prop := ∀ o o', findV t (L x.p) = some o → findV t (L y.p) = some o' → oneB x y = oneB o o'
def PartP (a t : List It) : Prop := (∀ (i : Nat) (x : It), a[i]? = some x → C1 a t x) ∧ ∀ (i j : Nat) (x y : It), a[i]? = some x → a[j]? = some y → P2 t x y
def c1To (a t : List It) (k : Nat) : Prop := ∀ (i : Nat) (x : It), i < k → a[i]? = some x → C1 a t x
def p2To (a t : List It) (x : It) (k : Nat) : Prop := ∀ (j : Nat) (y : It), j < k → a[j]? = some y → P2 t x y
def ppTo (a t : List It) (k : Nat) : Prop := ∀ (i : Nat) (x : It), i < k → a[i]? = some x → p2To a t x i
theorem beq_comm' (a b : List UInt8) : (a == b) = (b == a) := by
  by_cases h : a = b
  · subst h; rfl
  · rw [beq_eq_false_iff_ne.2 h, beq_eq_false_iff_ne.2 (Ne.symm h)]
theorem oneB_symm (x y : It) : oneB x y = oneB y x := by
  unfold oneB
  rw [Bool.and_comm (x.k == 1), beq_comm' (fstS x).toList]
theorem P2.symm {t : List It} {x y : It} (h : P2 t x y) : P2 t y x := fun o o' h1 h2 => by rw [oneB_symm y, oneB_symm o, h o' o h2 h1]
theorem P2.refl {a t : List It} {x : It} (h : C1 a t x) : P2 t x x := fun o o' h1 h2 => by
  obtain ⟨q, hq, hk, _⟩ := h
  rw [h1] at hq h2
  cases hq; cases h2
  unfold oneB
  rw [hk]
  simp
theorem part_of {a t : List It} (h1 : c1To a t a.length) (h2 : ppTo a t a.length) : PartP a t := by
  have hl : ∀ {i : Nat} {x : It}, a[i]? = some x → i < a.length := fun h => (List.getElem?_eq_some_iff.1 h).1
  refine ⟨fun i x hx => h1 i x (hl hx) hx, fun i j x y hx hy => ?_⟩
  rcases Nat.lt_trichotomy i j with h | h | h
  · exact (h2 j y (hl hy) hy i x h hx).symm
  · subst h
    rw [hx] at hy; cases hy
    exact P2.refl (h1 i x (hl hx) hx)
  · exact h2 i x (hl hx) hx j y h hy
theorem c1To_succ {a t : List It} {k : Nat} {x : It} (h : c1To a t k) (hx : a[k]? = some x) (hc : C1 a t x) : c1To a t (k + 1) := fun i y hi hy => by
  by_cases h1 : i < k
  · exact h i y h1 hy
  · obtain rfl : i = k := by omega
    rw [hx] at hy; cases hy; exact hc
theorem p2To_succ {a t : List It} {k : Nat} {x y : It} (h : p2To a t x k) (hy : a[k]? = some y) (hc : P2 t x y) : p2To a t x (k + 1) := fun i z hi hz => by
  by_cases h1 : i < k
  · exact h i z h1 hz
  · obtain rfl : i = k := by omega
    rw [hy] at hz; cases hz; exact hc
theorem ppTo_succ {a t : List It} {k : Nat} {x : It} (h : ppTo a t k) (hx : a[k]? = some x) (hc : p2To a t x k) : ppTo a t (k + 1) := fun i y hi hy => by
  by_cases h1 : i < k
  · exact h i y h1 hy
  · obtain rfl : i = k := by omega
    rw [hx] at hy; cases hy; exact hc

theorem tr_to2 {w : World} {B : Nat} {v : Value} {l : List It} (h : Tr w B v l) (T E : Nat) (hT : Tryd.prog.underlying T = some (.slice E)) (hs : (Tryd.prog.info? E).map (·.size) = some 5) {k : Nat} (hk : k ≤ l.length) :
    ∃ v', (∀ (w' : World), (Instr.slice T v none (some (.int .i64 (k : Int))) none).run Tryd.prog w' = .ok v' w') ∧ Sl w B 5 v' k ((l.take k).flatMap itC) := by
  obtain ⟨v', h1, h2⟩ := h.to (P := Tryd.prog) T E hT hs hk
  refine ⟨v', h1, ?_⟩
  have e : (l.flatMap itC).take (k * 5) = (l.take k).flatMap itC := by
    have e2 : l.flatMap itC = (l.take k).flatMap itC ++ (l.drop k).flatMap itC := by rw [← List.flatMap_append, List.take_append_drop]
    rw [e2, List.take_append_of_le_length (by rw [flat_len itC 5 itC_len, List.length_take]; omega), List.take_of_length_le (by rw [flat_len itC 5 itC_len, List.length_take]; omega)]
  rw [e] at h2
  exact h2

set_option maxHeartbeats 2000000 in
set_option maxRecDepth 100000 in
theorem part_any (a t : List It) (v u : Value) (w : World) (ha : Tr w w.heap.size v a) (ht0 : Tr w w.heap.size u t) (h30 : a.length ≤ 30) :
    Calls Tryd.prog 23 #[v, u] w fun e w' => ∃ r, e = .returned (.bool r) ∧ Says r (PartP a t) ∧ Below w.heap.size w w' := by
  obtain ⟨aa, ac, rfl, hm⟩ := tr_shape ha
  obtain ⟨ta, tc, rfl, hm2⟩ := tr_shape ht0
  obtain ⟨n, hn⟩ : ∃ n, n = a.length := ⟨_, rfl⟩
  obtain ⟨n2, hn2⟩ : ∃ n, n = t.length := ⟨_, rfl⟩
  rw [← hn] at hm h30
  rw [← hn2] at hm2
  have HA : Hid (∀ W, Below w.heap.size w W → Tr W W.heap.size (.slice aa a.length ac) a) := Lib.hid fun W hW => (ha.below hW).mono hW.size
  have HT : Hid (∀ W, Below w.heap.size w W → Tr W W.heap.size (.slice ta t.length tc) t) := Lib.hid fun W hW => (ht0.below hW).mono hW.size
  have HN := Lib.hid hn
  have HN2 := Lib.hid hn2
  clear ha ht0
  rw [← hn, ← hn2]
  clear hn hn2
  have CF : Hid (∀ (W : World) (s : ByteArray), Below w.heap.size w W → Calls Tryd.prog 11 #[.slice ta n2 tc, .string s] W fun e w' => e = .returned (.int .i64 (findZ t (L s))) ∧ Below W.heap.size W w') := Lib.hid fun W s hW => by rw [HN2.out]; exact find_any t _ s W (HT.out W hW)
  have CKT : Hid (∀ (W : World) (j : Nat) (o : It), Below w.heap.size w W → t[j]? = some o → Calls Tryd.prog 13 #[.slice ta n2 tc, .int .i64 (j : Int)] W fun e w' => e = .returned (.string (contS t o)) ∧ Below W.heap.size W w') := Lib.hid fun W j o hW ho => by rw [HN2.out]; exact content_any t _ j o W (HT.out W hW) ho
  have CKA : Hid (∀ (W : World) (j : Nat) (o : It), Below w.heap.size w W → a[j]? = some o → Calls Tryd.prog 13 #[.slice aa n ac, .int .i64 (j : Int)] W fun e w' => e = .returned (.string (contS a o)) ∧ Below W.heap.size W w') := Lib.hid fun W j o hW ho => by rw [HN.out]; exact content_any a _ j o W (HA.out W hW) ho
  have COA : Hid (∀ (W : World) (i j : Nat) (x y : It), Below w.heap.size w W → a[i]? = some x → a[j]? = some y → Calls Tryd.prog 31 #[.slice aa n ac, .int .i64 (i : Int), .int .i64 (j : Int)] W fun e w' => e = .returned (.bool (oneB x y)) ∧ Below W.heap.size W w') := Lib.hid fun W i j x y hW hx hy => by rw [HN.out]; exact one_any a _ i j x y W (HA.out W hW) hx hy
  have COT : Hid (∀ (W : World) (i j : Nat) (x y : It), Below w.heap.size w W → t[i]? = some x → t[j]? = some y → Calls Tryd.prog 31 #[.slice ta n2 tc, .int .i64 (i : Int), .int .i64 (j : Int)] W fun e w' => e = .returned (.bool (oneB x y)) ∧ Below W.heap.size W w') := Lib.hid fun W i j x y hW hx hy => by rw [HN2.out]; exact one_any t _ i j x y W (HT.out W hW) hx hy
  go_enter Tryd.func23, Tryd.ntmps23
  go_wp2_with fail
  go_loopw [13] (fun i wr => ∃ k : Nat, k ≤ n ∧ i = .int .i64 k ∧ c1To a t k ∧ ppTo a t k ∧ Below w.heap.size w wr) (fun i _ => n - (intOf i).toNat)
  case atStart => exact ⟨0, Nat.zero_le _, rfl, fun i x hi => by omega, fun i x hi => by omega, Below.refl _ _⟩
  case round =>
    obtain ⟨k, hk, rfl, hc1, hpp, hb⟩ := hrel
    obtain ⟨wo, rfl⟩ : ∃ wo : World, wo = wr := ⟨_, rfl⟩
    have hbs := hb.size
    by_cases hlt : k < n
    · obtain ⟨x, hx⟩ : ∃ x, a[k]? = some x := ⟨_, List.getElem?_eq_getElem (by rw [← HN.out]; exact hlt)⟩
      obtain ⟨b1, o1, i1, hb1, c1⟩ := it_at (HA.out _ hb) 23 44 Tryd.underlying23 (by kernel_rfl) hx (k : Int) rfl
      obtain ⟨c2, c3, c4, c5, c6⟩ := c1
      rw [← HN.out] at i1
      have CF1 := Lib.hid (fun W (hW : Below wo.heap.size wo W) => CF.out W x.p (hb.trans (hW.mono hbs)))
      have CKA1 := Lib.hid (fun W (hW : Below wo.heap.size wo W) => CKA.out W k x (hb.trans (hW.mono hbs)) hx)
      have HX := Lib.hid hx
      have HB := Lib.hid hb
      have HC1 := Lib.hid hc1
      have HPP := Lib.hid hpp
      cases hf : findI t (L x.p) with
      | none =>
        have HFZ := Lib.hid (findZ_none hf)
        have HNO : Hid (¬ PartP a t) := Lib.hid (fun h => by
          obtain ⟨o, ho, _⟩ := h.1 k x hx
          rw [findV_no hf] at ho; cases ho)
        obtain ⟨xp, xk, xm, xd, xs⟩ := x
        simp only [] at c2 c3 c4 c5 c6
        clear hx hb hc1 hpp hf
        go_wp2_with fail
        refine (CF1.out _ (by go_grown)).mono ?_
        rintro e w1 ⟨rfl, hb1'⟩
        rw [HFZ.out]
        have hs1 : wo.heap.size < w1.heap.size := by have := hb1'.size; simp at this; omega
        have e1 : w1.cell? ⟨wo.heap.size, 1, none⟩ = some (.int .i64 _) := (hb1'.cell (by simp)).trans (by simp; rfl)
        have HB1 : Hid (Below wo.heap.size wo w1) := Lib.hid ((Below.alloc (Below.refl _ _) (Nat.le_refl _) _).trans (hb1'.mono (by simp)))
        clear hb1' c2 c3 c4 c5 c6
        go_wp2_with fail
        go_quiet (fail)
        go_wp2
        go_ret
        refine ⟨_, rfl, ?_, HB.out.trans ((below_drewN HB1.out nq : Below wo.heap.size wo _).mono hbs)⟩
        exact ⟨fun h => (by first | cases h | simp at h), fun h => absurd h HNO.out⟩
      | some jf =>
        obtain ⟨o, ho, _⟩ := findI_some hf
        have hfv := findI_at2 hf ho
        have HFZ := Lib.hid (findZ_some hf)
        obtain ⟨b2, o2, i2, hb2, g2⟩ := it_at (HT.out _ hb) 23 44 Tryd.underlying23 (by kernel_rfl) ho (jf : Int) rfl
        rw [← HN2.out] at i2
        have hjn : decide ((jf : Int) < 0) = false := by simp
        have HG2 := Lib.hid g2.k
        have CKT1 := Lib.hid (fun W (hW : Below wo.heap.size wo W) => CKT.out W jf o (hb.trans (hW.mono hbs)) ho)
        have HO := Lib.hid ho
        have HFV := Lib.hid hfv
        by_cases hkk : o.k = x.k
        · have t1 : (o.k != x.k) = false := by simp [hkk]
          obtain ⟨s1, hs1⟩ : ∃ s, s = contS t o := ⟨_, rfl⟩
          obtain ⟨s2, hs2⟩ : ∃ s, s = contS a x := ⟨_, rfl⟩
          rw [← hs1] at CKT1
          rw [← hs2] at CKA1
          by_cases hss : L s1 = L s2
          · have t2 := eq_L hss
            have HCX : Hid (C1 a t x) := Lib.hid ⟨o, hfv, hkk, by rw [← hs1, ← hs2]; exact L_inj hss⟩
            obtain ⟨va, hva, hsa⟩ := tr_to2 (HA.out _ hb) 23 44 Tryd.underlying23 (by kernel_rfl) (k := k) (by rw [← HN.out]; omega)
            rw [← HN.out] at hva
            obtain ⟨vaa, vac, rfl⟩ : ∃ a c, va = .slice a k c := by
              obtain ⟨_, q, c, h, _⟩ := hsa
              exact ⟨q, c, h⟩
            have HSA := Lib.hid hsa
            have hpp2 := hpp
            obtain ⟨xp, xk, xm, xd, xs⟩ := x
            obtain ⟨op, ok, om, od, os⟩ := o
            simp only [] at c2 c3 c4 c5 c6 t1 HG2
            clear hx hb hc1 hpp hpp2 hf hfv ho g2 hkk hss hs1 hs2 hsa
            go_wp2_with fail
            refine (CF1.out _ (by go_grown)).mono ?_
            rintro e w1 ⟨rfl, hb1'⟩
            rw [HFZ.out]
            have hs1 : wo.heap.size < w1.heap.size := by have := hb1'.size; simp at this; omega
            have e1 : w1.cell? ⟨wo.heap.size, 1, none⟩ = some (.int .i64 _) := (hb1'.cell (by simp)).trans (by simp; rfl)
            have HB1 : Hid (Below wo.heap.size wo w1) := Lib.hid ((Below.alloc (Below.refl _ _) (Nat.le_refl _) _).trans (hb1'.mono (by simp)))
            clear hb1' c2 c3 c4 c5 c6
            have CQ1 : Hid (∀ d os, Calls Tryd.prog 13 #[.slice ta n2 tc, .int .i64 (jf : Int)] (Sort.grow (redrawn w1 d) os) fun e w'' => e = .returned (.string s1) ∧ ∃ q : Regrown, w'' = Sort.grow (redrawn w1 q.d) q.os) := Lib.hid fun d os => Calls.regrown_of (CKT1.out _ (HB1.out.trans ((below_regrown w1 d os).mono HB1.out.size)))
            have CQ2 : Hid (∀ d os, Calls Tryd.prog 13 #[.slice aa n ac, .int .i64 (k : Int)] (Sort.grow (redrawn w1 d) os) fun e w'' => e = .returned (.string s2) ∧ ∃ q : Regrown, w'' = Sort.grow (redrawn w1 q.d) q.os) := Lib.hid fun d os => Calls.regrown_of (CKA1.out _ (HB1.out.trans ((below_regrown w1 d os).mono HB1.out.size)))
            have h2 := (HB1.out.cell (p := ⟨b2, o2 + 1, none⟩) hb2).trans HG2.out
            have hc1r : ∀ d os, (Sort.grow (redrawn w1 d) os).cell? ⟨wo.heap.size, 1, none⟩ = _ := fun d os => cell_regrown e1 d os
            have hc2r : ∀ d os, (Sort.grow (redrawn w1 d) os).cell? ⟨b2, o2 + 1, none⟩ = _ := fun d os => cell_regrown h2 d os
            go_wp2_with fail
            refine wp_region_quiet_below (by kernel_rfl) (by kernel_rfl) ?_
            repeat (go_big_quiet_step (with_reducible first | exact CQ1.out _ _ | exact CQ2.out _ _))
            refine wpQuiet_nil ?_
            intro _ hw'
            obtain ⟨⟨dq, osq⟩, hw''⟩ := hw'
            subst hw''
            have HB2 := Lib.hid (HB1.out.trans ((below_regrown w1 dq osq).mono HB1.out.size))
            obtain ⟨w2, hw2⟩ : ∃ w2, w2 = Sort.grow (redrawn w1 dq) osq := ⟨_, rfl⟩
            rw [← hw2] at HB2 ⊢
            clear hw2 hc1r hc2r CQ1 CQ2
            go_wp2_with fail
            go_loopw [47] (fun i wr => ∃ m : Nat, m ≤ k ∧ i = .int .i64 m ∧ p2To a t ⟨xp, xk, xm, xd, xs⟩ m ∧ Below w2.heap.size w2 wr) (fun i _ => k - (intOf i).toNat)
            case atStart => exact ⟨0, Nat.zero_le _, rfl, fun i x hi => by omega, Below.refl _ _⟩
            case round =>
              obtain ⟨m, hmk, rfl, hp2, hb3⟩ := hrel
              obtain ⟨wi, rfl⟩ : ∃ wi : World, wi = wr := ⟨_, rfl⟩
              have hbw : Below wo.heap.size wo wi := HB2.out.trans (hb3.mono HB2.out.size)
              have hbw0 : Below w.heap.size w wi := HB.out.trans (hbw.mono hbs)
              by_cases hmt : m < k
              · obtain ⟨y, hy⟩ : ∃ y, a[m]? = some y := ⟨_, List.getElem?_eq_getElem (by rw [← HN.out]; omega)⟩
                have hy2 : (a.take k)[m]? = some y := by rw [List.getElem?_take_of_lt hmt]; exact hy
                have hsa2 := HSA.out.below hbw
                have hlk : (a.take k).length = k := by rw [List.length_take, ← HN.out]; omega
                obtain ⟨b3, o3, i3, hbb3, d1⟩ := it_at (l := a.take k) (by rw [← hlk] at hsa2; rw [hlk] at hsa2; show Sl wi _ 5 _ (a.take k).length _; rw [hlk]; exact hsa2) 23 44 Tryd.underlying23 (by kernel_rfl) hy2 (m : Int) rfl
                obtain ⟨d2, d3, d4, d5, d6⟩ := d1
                have hb3' : b3 < wi.heap.size := Nat.lt_of_lt_of_le hbb3 hbw.size
                obtain ⟨oy, hoy, hky, _⟩ := HC1.out m y hmt hy
                obtain ⟨jg, hjg⟩ : ∃ jg, findI t (L y.p) = some jg := by
                  cases h : findI t (L y.p) with
                  | none => rw [findV_no h] at hoy; cases hoy
                  | some j => exact ⟨j, rfl⟩
                obtain ⟨oy', hoy', _⟩ := findI_some hjg
                obtain rfl : oy' = oy := by have := findI_at2 hjg hoy'; rw [this] at hoy; cases hoy; rfl
                have HFG := Lib.hid (findZ_some hjg)
                have CF2 := Lib.hid (fun W (hW : Below wi.heap.size wi W) => CF.out W y.p (hbw0.trans (hW.mono hbw0.size)))
                have CO1 := Lib.hid (fun W (hW : Below wi.heap.size wi W) => COA.out W k m _ y (hbw0.trans (hW.mono hbw0.size)) HX.out hy)
                have CO2 := Lib.hid (fun W (hW : Below wi.heap.size wi W) => COT.out W jf jg _ oy' (hbw0.trans (hW.mono hbw0.size)) HO.out hoy')
                obtain ⟨r1, hr1⟩ : ∃ r, r = oneB ⟨xp, xk, xm, xd, xs⟩ y := ⟨_, rfl⟩
                obtain ⟨r2, hr2⟩ : ∃ r, r = oneB ⟨op, ok, om, od, os⟩ oy' := ⟨_, rfl⟩
                rw [← hr1] at CO1
                rw [← hr2] at CO2
                have hjg0 : decide ((0 : Int) ≤ (jg : Int)) = true := by simp
                have HP2 := Lib.hid hp2
                have HB3 := Lib.hid hbw
                have HYY := Lib.hid hy
                have HP2N : Hid (r1 = r2 → P2 t ⟨xp, xk, xm, xd, xs⟩ y) := Lib.hid (fun h q q' hq hq' => by
                  rw [HFV.out] at hq; cases hq
                  rw [hoy] at hq'; cases hq'
                  rw [← hr1, ← hr2]; exact h)
                have HP2Y : Hid (P2 t ⟨xp, xk, xm, xd, xs⟩ y → r1 = r2) := Lib.hid (fun h => by
                  rw [hr1, hr2]; exact h _ _ HFV.out hoy)
                obtain ⟨yp, yk, ym, yd, ys⟩ := y
                simp only [] at d2 d3 d4 d5 d6
                clear hy hy2 hsa2 hlk hoy hoy' hjg hr1 hr2 hp2 hbw hbw0
                by_cases hrr : r1 = r2
                · have HP2S := Lib.hid (p2To_succ HP2.out HYY.out (HP2N.out hrr))
                  subst hrr
                  go_wp2_with fail
                  refine (CF2.out _ (by go_grown)).mono ?_
                  rintro e w4 ⟨rfl, hb4⟩
                  rw [HFG.out]
                  have HB4 : Hid (Below wi.heap.size wi w4) := Lib.hid ((Below.alloc (Below.refl _ _) (Nat.le_refl _) _).trans (hb4.mono (by simp)))
                  clear hb4 d2 d3 d4 d5 d6
                  go_wp2_with fail
                  refine (CO1.out _ HB4.out).mono ?_
                  rintro e w5 ⟨rfl, hb5⟩
                  have HB5 : Hid (Below wi.heap.size wi w5) := Lib.hid (HB4.out.trans (hb5.mono HB4.out.size))
                  clear hb5
                  go_wp2_with fail
                  refine (CO2.out _ HB5.out).mono ?_
                  rintro e w6 ⟨rfl, hb6⟩
                  have HB6 : Hid (Below wi.heap.size wi w6) := Lib.hid (HB5.out.trans (hb6.mono HB5.out.size))
                  clear hb6
                  go_wp2_with fail
                  go_roundw
                  case rel => exact ⟨m + 1, by omega, by go_num, HP2S.out, hb3.trans (HB6.out.mono hb3.size)⟩
                  case measure => simp [intOf]; omega
                · have HNO : Hid (¬ PartP a t) := Lib.hid (fun h => hrr (HP2Y.out (h.2 k m _ _ HX.out HYY.out)))
                  obtain rfl : r2 = !r1 := by cases r1 <;> cases r2 <;> simp_all
                  clear hrr
                  go_wp2_with fail
                  refine (CF2.out _ (by go_grown)).mono ?_
                  rintro e w4 ⟨rfl, hb4⟩
                  rw [HFG.out]
                  have HB4 : Hid (Below wi.heap.size wi w4) := Lib.hid ((Below.alloc (Below.refl _ _) (Nat.le_refl _) _).trans (hb4.mono (by simp)))
                  clear hb4 d2 d3 d4 d5 d6
                  go_wp2_with fail
                  refine (CO1.out _ HB4.out).mono ?_
                  rintro e w5 ⟨rfl, hb5⟩
                  have HB5 : Hid (Below wi.heap.size wi w5) := Lib.hid (HB4.out.trans (hb5.mono HB4.out.size))
                  clear hb5
                  go_wp2_with fail
                  refine (CO2.out _ HB5.out).mono ?_
                  rintro e w6 ⟨rfl, hb6⟩
                  have HB6 : Hid (Below wi.heap.size wi w6) := Lib.hid (HB5.out.trans (hb6.mono HB5.out.size))
                  clear hb6
                  go_wp2_with fail
                  go_ret
                  refine ⟨_, rfl, ?_, HB.out.trans ((HB3.out.trans (HB6.out.mono HB3.out.size) : Below wo.heap.size wo _).mono hbs)⟩
                  exact ⟨fun h => (by first | cases h | simp at h), fun h => absurd h HNO.out⟩
              · obtain rfl : m = k := by omega
                have HPS := Lib.hid (ppTo_succ HPP.out HX.out hp2)
                have HCS := Lib.hid (c1To_succ HC1.out HX.out HCX.out)
                have HB3 := Lib.hid hbw0
                clear hp2 hbw hbw0 hb3
                go_wp2_with fail
                go_roundw
                case rel => exact ⟨m + 1, by omega, by go_num, HCS.out, HPS.out, HB3.out⟩
                case measure => simp [intOf]; omega
          · have t2 := ne_L hss
            have HNO : Hid (¬ PartP a t) := Lib.hid (fun h => by
              obtain ⟨q, hq, _, hq2⟩ := h.1 k x hx
              rw [hfv] at hq; cases hq
              rw [← hs1, ← hs2] at hq2
              exact hss (by rw [hq2]))
            obtain ⟨xp, xk, xm, xd, xs⟩ := x
            obtain ⟨op, ok, om, od, os⟩ := o
            simp only [] at c2 c3 c4 c5 c6 t1 HG2
            clear hx hb hc1 hpp hf hfv ho g2 hkk hss hs1 hs2
            go_wp2_with fail
            refine (CF1.out _ (by go_grown)).mono ?_
            rintro e w1 ⟨rfl, hb1'⟩
            rw [HFZ.out]
            have hs1 : wo.heap.size < w1.heap.size := by have := hb1'.size; simp at this; omega
            have e1 : w1.cell? ⟨wo.heap.size, 1, none⟩ = some (.int .i64 _) := (hb1'.cell (by simp)).trans (by simp; rfl)
            have HB1 : Hid (Below wo.heap.size wo w1) := Lib.hid ((Below.alloc (Below.refl _ _) (Nat.le_refl _) _).trans (hb1'.mono (by simp)))
            clear hb1' c2 c3 c4 c5 c6
            have CQ1 : Hid (∀ d os, Calls Tryd.prog 13 #[.slice ta n2 tc, .int .i64 (jf : Int)] (Sort.grow (redrawn w1 d) os) fun e w'' => e = .returned (.string s1) ∧ ∃ q : Regrown, w'' = Sort.grow (redrawn w1 q.d) q.os) := Lib.hid fun d os => Calls.regrown_of (CKT1.out _ (HB1.out.trans ((below_regrown w1 d os).mono HB1.out.size)))
            have CQ2 : Hid (∀ d os, Calls Tryd.prog 13 #[.slice aa n ac, .int .i64 (k : Int)] (Sort.grow (redrawn w1 d) os) fun e w'' => e = .returned (.string s2) ∧ ∃ q : Regrown, w'' = Sort.grow (redrawn w1 q.d) q.os) := Lib.hid fun d os => Calls.regrown_of (CKA1.out _ (HB1.out.trans ((below_regrown w1 d os).mono HB1.out.size)))
            have h2 := (HB1.out.cell (p := ⟨b2, o2 + 1, none⟩) hb2).trans HG2.out
            have hc1r : ∀ d os, (Sort.grow (redrawn w1 d) os).cell? ⟨wo.heap.size, 1, none⟩ = _ := fun d os => cell_regrown e1 d os
            have hc2r : ∀ d os, (Sort.grow (redrawn w1 d) os).cell? ⟨b2, o2 + 1, none⟩ = _ := fun d os => cell_regrown h2 d os
            go_wp2_with fail
            refine wp_region_quiet_below (by kernel_rfl) (by kernel_rfl) ?_
            repeat (go_big_quiet_step (with_reducible first | exact CQ1.out _ _ | exact CQ2.out _ _))
            refine wpQuiet_nil ?_
            intro _ hw'
            obtain ⟨⟨dq, osq⟩, hw''⟩ := hw'
            subst hw''
            have HB2 := Lib.hid (HB1.out.trans ((below_regrown w1 dq osq).mono HB1.out.size))
            obtain ⟨w2, hw2⟩ : ∃ w2, w2 = Sort.grow (redrawn w1 dq) osq := ⟨_, rfl⟩
            rw [← hw2] at HB2 ⊢
            clear hw2 hc1r hc2r CQ1 CQ2
            go_wp2_with fail
            go_ret
            refine ⟨_, rfl, ?_, HB.out.trans ((HB2.out : Below wo.heap.size wo _).mono hbs)⟩
            exact ⟨fun h => (by first | cases h | simp at h), fun h => absurd h HNO.out⟩
        · have t1 : (o.k != x.k) = true := by simpa using hkk
          have HNO : Hid (¬ PartP a t) := Lib.hid (fun h => by
            obtain ⟨q, hq, hq2, _⟩ := h.1 k x hx
            rw [hfv] at hq; cases hq
            exact hkk hq2)
          obtain ⟨xp, xk, xm, xd, xs⟩ := x
          obtain ⟨op, ok, om, od, os⟩ := o
          simp only [] at c2 c3 c4 c5 c6 t1 HG2
          clear hx hb hc1 hpp hf hfv ho g2 hkk
          go_wp2_with fail
          refine (CF1.out _ (by go_grown)).mono ?_
          rintro e w1 ⟨rfl, hb1'⟩
          rw [HFZ.out]
          have hs1 : wo.heap.size < w1.heap.size := by have := hb1'.size; simp at this; omega
          have e1 : w1.cell? ⟨wo.heap.size, 1, none⟩ = some (.int .i64 _) := (hb1'.cell (by simp)).trans (by simp; rfl)
          have HB1 : Hid (Below wo.heap.size wo w1) := Lib.hid ((Below.alloc (Below.refl _ _) (Nat.le_refl _) _).trans (hb1'.mono (by simp)))
          clear hb1' c2 c3 c4 c5 c6
          have h2 := (HB1.out.cell (p := ⟨b2, o2 + 1, none⟩) hb2).trans HG2.out
          go_wp2_with fail
          go_quiet (fail)
          go_wp2
          go_ret
          refine ⟨_, rfl, ?_, HB.out.trans ((below_drewN HB1.out nq : Below wo.heap.size wo _).mono hbs)⟩
          exact ⟨fun h => (by first | cases h | simp at h), fun h => absurd h HNO.out⟩
    · obtain rfl : k = n := by omega
      have HY : Hid (PartP a t) := Lib.hid (part_of (by rw [← HN.out]; exact hc1) (by rw [← HN.out]; exact hpp))
      have HB := Lib.hid hb
      clear hb hc1 hpp
      go_wp2_with fail
      go_ret
      exact ⟨true, rfl, ⟨fun _ => HY.out, fun _ => rfl⟩, HB.out⟩
end Go.Proofs.YtdelgbkllnccoaaDoor
