/-
  The walks of right and of the statement TreeParts.
-/
import Derived.Test.YtdelgbkllnccoaaDoorT12
import Derived.Test.YtdelgbkllnccoaaDoorT18
namespace Go.Proofs.YtdelgbkllnccoaaDoor
open Go.RowKit

theorem rightL_any (l : List It) (v : Value) (w : World) (hl : Tr w w.heap.size v l) (h30 : l.length ≤ 30) (hz : ∀ x ∈ l, x.p.size ≤ 20000 ∧ x.d.size ≤ 20000 ∧ x.s.size ≤ 20000) :
    Calls Tryd.prog 22 #[v] w fun e w' => ∃ (r : Int) (i : Nat), Chk l r i ∧ e = .returned (.bool (r == 0)) ∧ Below w.heap.size w w' := by
  have CI := Lib.hid (items_any l v w hl h30)
  have CC : Hid (∀ W v', Tr W W.heap.size v' l → Calls Tryd.prog 10 #[v'] W (CkPost l W)) := Lib.hid fun W v' h => rcheck_any l v' W h h30 hz
  clear hl h30 hz
  go_enter Tryd.func22, Tryd.ntmps22
  go_wp2_with fail
  refine CI.out.mono ?_
  rintro e w1 ⟨v', rfl, ho, hb1⟩
  have HO := Lib.hid ho
  have HB1 := Lib.hid hb1
  clear ho hb1
  go_wp2_with fail
  refine (CC.out _ _ (Sl.of_own HO.out)).mono ?_
  rintro e w2 ⟨r, i, hc, rfl, hb2⟩
  have HB2 : Hid (Below w.heap.size w w2) := Lib.hid (HB1.out.trans (hb2.mono HB1.out.size))
  have HC := Lib.hid hc
  clear hb2 hc
  go_wp2
  go_ret
  exact ⟨r, i, HC.out, rfl, HB2.out⟩

theorem same_self (modes : Bool) (a : List It) : SameP modes a a := ⟨rfl, fun i x y hx hy => by
  rw [hx] at hy; cases hy
  unfold eqIt; simp⟩

set_option maxHeartbeats 2000000 in
set_option maxRecDepth 100000 in
theorem parts_any (a t : List It) (v u : Value) (s : ByteArray) (w : World) (hv : Held w) (ha : Tr w w.heap.size v a) (ht0 : Tr w w.heap.size u t) (hza : ∀ x ∈ a, x.p.size ≤ 140737488355327 ∧ x.d.size ≤ 140737488355327 ∧ x.s.size ≤ 140737488355327)
    (hzt : ∀ x ∈ t, x.p.size ≤ 140737488355327 ∧ x.d.size ≤ 140737488355327 ∧ x.s.size ≤ 140737488355327) (hs : s.size ≤ 9223372036854775807) :
    Calls Tryd.prog 4 #[v, u, .string s] w fun e w' => e = .returned (.bool true) ∧ Below w.heap.size w w' := by
  obtain ⟨aa, ac, rfl, hm⟩ := tr_shape ha
  obtain ⟨ta, tc, rfl, hm2⟩ := tr_shape ht0
  have C0 := Lib.hid (anchor_any w hv)
  have HA : Hid (∀ W, Below w.heap.size w W → Tr W W.heap.size (.slice aa a.length ac) a) := Lib.hid fun W hW => (ha.below hW).mono hW.size
  have HT : Hid (∀ W, Below w.heap.size w W → Tr W W.heap.size (.slice ta t.length tc) t) := Lib.hid fun W hW => (ht0.below hW).mono hW.size
  obtain ⟨n, hn⟩ : ∃ n, n = a.length := ⟨_, rfl⟩
  obtain ⟨n2, hn2⟩ : ∃ n, n = t.length := ⟨_, rfl⟩
  rw [← hn] at hm
  rw [← hn2] at hm2
  have HN := Lib.hid hn
  have HN2 := Lib.hid hn2
  have CSA : Hid (∀ W, Below w.heap.size w W → Calls Tryd.prog 7 #[.slice aa n ac] W fun e w' => e = .returned (.bool (shortB a)) ∧ Below W.heap.size W w') := Lib.hid fun W hW => by rw [hn]; exact shortL_any a _ W (HA.out W hW) hza
  have CST : Hid (∀ W, Below w.heap.size w W → Calls Tryd.prog 7 #[.slice ta n2 tc] W fun e w' => e = .returned (.bool (shortB t)) ∧ Below W.heap.size W w') := Lib.hid fun W hW => by rw [hn2]; exact shortL_any t _ W (HT.out W hW) hzt
  rw [← hn, ← hn2]
  clear ha ht0 hza hzt hv hn hn2
  cases hsa : shortB a with
  | false =>
    rw [hsa] at CSA
    clear hsa
    go_enter Tryd.func4, Tryd.ntmps4
    go_wp2_with fail
    refine C0.out.mono ?_
    rintro e w1 ⟨rfl, hb1⟩
    have HB1 := Lib.hid hb1
    clear hb1
    go_wp2_with fail
    refine (CSA.out _ HB1.out).mono ?_
    rintro e w2 ⟨rfl, hb2⟩
    have HB2 : Hid (Below w.heap.size w w2) := Lib.hid (HB1.out.trans (hb2.mono HB1.out.size))
    clear hb2
    go_wp2
    go_ret
    exact ⟨rfl, HB2.out⟩
  | true =>
    rw [hsa] at CSA
    cases hst : shortB t with
    | false =>
      rw [hst] at CST
      clear hsa hst
      go_enter Tryd.func4, Tryd.ntmps4
      go_wp2_with fail
      refine C0.out.mono ?_
      rintro e w1 ⟨rfl, hb1⟩
      have HB1 := Lib.hid hb1
      clear hb1
      go_wp2_with fail
      refine (CSA.out _ HB1.out).mono ?_
      rintro e w2 ⟨rfl, hb2⟩
      have HB2 : Hid (Below w.heap.size w w2) := Lib.hid (HB1.out.trans (hb2.mono HB1.out.size))
      clear hb2
      go_wp2_with fail
      refine (CST.out _ HB2.out).mono ?_
      rintro e w3 ⟨rfl, hb3⟩
      have HB3 : Hid (Below w.heap.size w w3) := Lib.hid (HB2.out.trans (hb3.mono HB2.out.size))
      clear hb3
      go_wp2
      go_ret
      exact ⟨rfl, HB3.out⟩
    | true =>
      rw [hst] at CST
      by_cases h5 : (5000 : Int) < (s.size : Int)
      · clear hsa hst
        go_enter Tryd.func4, Tryd.ntmps4
        go_wp2_with fail
        refine C0.out.mono ?_
        rintro e w1 ⟨rfl, hb1⟩
        have HB1 := Lib.hid hb1
        clear hb1
        go_wp2_with fail
        refine (CSA.out _ HB1.out).mono ?_
        rintro e w2 ⟨rfl, hb2⟩
        have HB2 : Hid (Below w.heap.size w w2) := Lib.hid (HB1.out.trans (hb2.mono HB1.out.size))
        clear hb2
        go_wp2_with fail
        refine (CST.out _ HB2.out).mono ?_
        rintro e w3 ⟨rfl, hb3⟩
        have HB3 : Hid (Below w.heap.size w w3) := Lib.hid (HB2.out.trans (hb3.mono HB2.out.size))
        clear hb3
        go_wp2
        go_ret
        exact ⟨rfl, HB3.out⟩
      · rw [shortB, Bool.and_eq_true, decide_eq_true_eq, decide_eq_true_eq] at hsa hst
        obtain ⟨h20a, h30a⟩ := hsa
        obtain ⟨h20t, h30t⟩ := hst
        have hsz : ∀ (l : List It), wts l ≤ 20000 → ∀ x ∈ l, x.p.size ≤ 20000 ∧ x.d.size ≤ 20000 ∧ x.s.size ≤ 20000 := fun l hl x hx => by
          have h1 := wt_le hx
          have h2 : wt x = x.p.size + x.d.size + x.s.size := rfl
          omega
        have HZT := Lib.hid (hsz t h20t)
        have CLS : Hid (∀ W, Below w.heap.size w W → Calls Tryd.prog 20 #[.slice ta n2 tc, .string s] W fun e w' => ∃ v', e = .returned v' ∧ w'.ownsRow W.heap.size 44 5 v' (lessL t s).length ((lessL t s).flatMap itC) ∧ Below W.heap.size W w') := Lib.hid fun W hW => by rw [HN2.out]; exact less_any t _ s W (HT.out W hW) h30t
        have CSM : Hid (∀ (W : World) (v u : Value) (x y : List It) (m : Bool), Tr W W.heap.size v x → Tr W W.heap.size u y → Calls Tryd.prog 19 #[v, u, .bool m] W fun e w' => ∃ r, e = .returned (.bool r) ∧ Says r (SameP m x y) ∧ Below W.heap.size W w') := Lib.hid fun W v u x y m h1 h2 => same_any m x y v u W h1 h2
        have CSame : Hid (∀ (W : World) (m : Bool), Below w.heap.size w W → Calls Tryd.prog 21 #[.slice aa n ac, .slice ta n2 tc, .bool m] W fun e w' => ∃ r, e = .returned (.bool r) ∧ Says r (SameP m a t) ∧ Below W.heap.size W w') := Lib.hid fun W m hW => by rw [HN.out, HN2.out]; exact Same_any m a t _ _ W (HA.out W hW) (HT.out W hW)
        have CSame2 : Hid (∀ (W : World) (m : Bool), Below w.heap.size w W → Calls Tryd.prog 19 #[.slice aa n ac, .slice ta n2 tc, .bool m] W fun e w' => ∃ r, e = .returned (.bool r) ∧ Says r (SameP m a t) ∧ Below W.heap.size W w') := Lib.hid fun W m hW => by rw [HN.out, HN2.out]; exact same_any m a t _ _ W (HA.out W hW) (HT.out W hW)
        have CRA : Hid (∀ W, Below w.heap.size w W → Calls Tryd.prog 22 #[.slice aa n ac] W fun e w' => ∃ r : Bool, e = .returned (.bool r) ∧ Below W.heap.size W w') := Lib.hid fun W hW => by rw [HN.out]; exact (rightL_any a _ W (HA.out W hW) h30a (hsz a h20a)).mono fun e w' ⟨r, i, _, h1, h2⟩ => ⟨_, h1, h2⟩
        have CRT : Hid (∀ W, Below w.heap.size w W → Calls Tryd.prog 22 #[.slice ta n2 tc] W fun e w' => ∃ r : Bool, e = .returned (.bool r) ∧ Below W.heap.size W w') := Lib.hid fun W hW => by rw [HN2.out]; exact (rightL_any t _ W (HT.out W hW) h30t (hsz t h20t)).mono fun e w' ⟨r, i, _, h1, h2⟩ => ⟨_, h1, h2⟩
        have CP : Hid (∀ W, Below w.heap.size w W → Calls Tryd.prog 23 #[.slice aa n ac, .slice ta n2 tc] W fun e w' => ∃ r, e = .returned (.bool r) ∧ Says r (PartP a t) ∧ Below W.heap.size W w') := Lib.hid fun W hW => by rw [HN.out, HN2.out]; exact part_any a t _ _ W (HA.out W hW) (HT.out W hW) h30a
        have CIA : Hid (∀ W, Below w.heap.size w W → Calls Tryd.prog 8 #[.slice aa n ac] W fun e w' => ∃ v', e = .returned v' ∧ w'.ownsRow W.heap.size 36 5 v' a.length (a.flatMap itC) ∧ Below W.heap.size W w') := Lib.hid fun W hW => by rw [HN.out]; exact items_any a _ W (HA.out W hW) h30a
        have CIT : Hid (∀ W, Below w.heap.size w W → Calls Tryd.prog 8 #[.slice ta n2 tc] W fun e w' => ∃ v', e = .returned v' ∧ w'.ownsRow W.heap.size 36 5 v' t.length (t.flatMap itC) ∧ Below W.heap.size W w') := Lib.hid fun W hW => by rw [HN2.out]; exact items_any t _ W (HT.out W hW) h30t
        have CRP : Hid (∀ (W : World) (v u : Value), Tr W W.heap.size v a → Tr W W.heap.size u t → Calls Tryd.prog 24 #[v, u] W fun e w' => ∃ r, e = .returned (.bool r) ∧ Says r (PartP a t) ∧ Below W.heap.size W w') := Lib.hid fun W v u h1 h2 => rpart_any a t v u W h1 h2 h30a
        have hn30 : n2 ≤ 30 := by have := HN2.out; omega
        clear hsz h20a h20t h30a h30t
        go_enter Tryd.func4, Tryd.ntmps4
        go_wp2_with fail
        refine C0.out.mono ?_
        rintro e w1 ⟨rfl, hb1⟩
        have HB1 := Lib.hid hb1
        clear hb1
        go_wp2_with fail
        refine (CSA.out _ HB1.out).mono ?_
        rintro e w2 ⟨rfl, hb2⟩
        have HB2 : Hid (Below w.heap.size w w2) := Lib.hid (HB1.out.trans (hb2.mono HB1.out.size))
        clear hb2
        go_wp2_with fail
        refine (CST.out _ HB2.out).mono ?_
        rintro e w3 ⟨rfl, hb3⟩
        have HB3 : Hid (Below w.heap.size w w3) := Lib.hid (HB2.out.trans (hb3.mono HB2.out.size))
        clear hb3
        go_wp2_with fail
        go_loopw [7, 27] (fun v3 i wr => ∃ k : Nat, k ≤ n2 ∧ i = .int .i64 k ∧ wr.ownsRow w.heap.size 44 5 v3 (lessL (t.take k) s).length ((lessL (t.take k) s).flatMap itC) ∧ Below w.heap.size w wr) (fun _ i _ => n2 - (intOf i).toNat)
        case atStart => exact ⟨0, Nat.zero_le _, rfl, World.ownsRow_nil _ _ _ _, HB3.out⟩
        case round =>
          obtain ⟨k, hk, rfl, hown, hb⟩ := hrel
          obtain ⟨wo, rfl⟩ : ∃ wo : World, wo = wr := ⟨_, rfl⟩
          have hbs := hb.size
          obtain ⟨oa, oc, rfl⟩ := own_shape hown
          have hll := less_len t s k
          by_cases hlt : k < n2
          · obtain ⟨x, hx⟩ : ∃ x, t[k]? = some x := ⟨_, List.getElem?_eq_getElem (by rw [← HN2.out]; omega)⟩
            obtain ⟨b1, o1, i1, hb1, c1⟩ := it_at (HT.out _ hb) 23 44 Tryd.underlying23 (by kernel_rfl) hx (k : Int) rfl
            obtain ⟨c2, c3, c4, c5, c6⟩ := c1
            rw [← HN2.out] at i1
            have hsn := less_snoc hx s
            obtain ⟨q, hq⟩ : ∃ q, q = uB x s := ⟨_, rfl⟩
            rw [← hq] at hsn
            have CU : Hid (∀ W, Calls Tryd.prog 18 #[.string x.p, .string s] W fun e w' => e = .returned (.bool q) ∧ W = w') := Lib.hid fun W => by rw [hq]; exact (runder_any x.p s W (by have := (HZT.out x (List.mem_of_getElem? hx)).1; omega) (by omega)).mono fun e w' h => ⟨h.1, h.2.symm⟩
            obtain ⟨p, kk, m, d, s'⟩ := x
            simp only [] at c2 c3 c4 c5 c6 CU
            obtain ⟨D, hD⟩ : ∃ D, D = lessL (t.take k) s := ⟨_, rfl⟩
            rw [← hD] at hown hsn hll ⊢
            obtain ⟨c, hc⟩ : ∃ c, c = D.length := ⟨_, rfl⟩
            rw [← hc] at hown hll ⊢
            have HSN := Lib.hid hsn
            have HO := Lib.hid hown
            have HB := Lib.hid hb
            have HC := Lib.hid hc
            clear hx hown hb hsn hD hc hq
            have hk24 : (c + 1) * 64 ≤ 140737488355328 := by omega
            cases q
            · go_wp2_with fail
              refine (CU.out _).mono ?_
              rintro e w4 ⟨rfl, rfl⟩
              go_wp2_with (at_builtin; go_must ((refine append_sl2 rfl _ _ 22 rfl w.heap.size 44 Tryd.underlying22 infoIt rfl (by decide) (v := .slice oa c oc) (n := c) (xs := D.flatMap itC) rfl ((HO.out.alloc _).alloc _) (m := 1) (news := itC ⟨p, kk, m, d, s'⟩) rfl (sl_made_at _ #[.string p, .int .i64 kk, .int .i64 m, .string d, .string s'] _ 1 5 rfl (by unfold maxLen; omega) (by simp)) (by omega) (its_one [⟨p, kk, m, d, s'⟩]) hk24 (by unfold maxLen; omega) (by simp; omega) ?_); intro g1 cap1 w5 hown hgrow hlie hglt; have HB5 := Lib.hid (((HB.out.alloc hbs _).alloc (by simp; omega) _).grown hgrow (by simp; omega) fun p hp => (World.ownsRow.lt HO.out p hp).1); have HO5 := Lib.hid hown; clear hown hgrow hlie hglt))
              go_roundw
              case rel => exact ⟨k + 1, by omega, by go_num, by rw [HSN.out, if_neg (by decide), List.length_append, List.flatMap_append, ← HC.out]; simpa using HO5.out, HB5.out⟩
              case measure => simp [intOf]; omega
            · go_wp2_with fail
              refine (CU.out _).mono ?_
              rintro e w4 ⟨rfl, rfl⟩
              go_wp2_with fail
              go_roundw
              case rel => exact ⟨k + 1, by omega, by go_num, by rw [HSN.out]; (first | rw [if_pos rfl, ← HC.out] | rw [if_pos trivial, ← HC.out]); exact HO.out.alloc _, HB.out.alloc hbs _⟩
              case measure => simp [intOf]; omega
          · obtain rfl : k = n2 := by omega
            have e : t.take k = t := List.take_of_length_le (by rw [← HN2.out]; omega)
            rw [e] at hown
            have HO := Lib.hid hown
            have HB := Lib.hid hb
            clear hown hb
            rw [e] at hll ⊢
            clear e
            go_wp2_with fail
            refine (CLS.out _ HB.out).mono ?_
            rintro e w4 ⟨lv, rfl, ho4, hb4⟩
            have HB4 : Hid (Below w.heap.size w w4) := Lib.hid (HB.out.trans (hb4.mono HB.out.size))
            have C1 := Lib.hid (CSM.out w4 _ _ (lessL t s) (lessL t s) true (Sl.of_own ho4) (Sl.of_own (own_below HO.out hb4)))
            obtain ⟨la, lc, rfl⟩ := own_shape ho4
            clear hb4 ho4
            go_wp2_with fail
            refine C1.out.mono ?_
            rintro e w5 ⟨r, rfl, hr, hb5⟩
            obtain rfl : r = true := hr.2 (same_self _ _)
            have HB5 : Hid (Below w.heap.size w w5) := Lib.hid (HB4.out.trans (hb5.mono HB4.out.size))
            clear hb5 hr C1
            go_wp2_with fail
            refine (CSame.out _ _ HB5.out).mono ?_
            rintro e w6 ⟨r1, rfl, hr1, hb6⟩
            have HB6 : Hid (Below w.heap.size w w6) := Lib.hid (HB5.out.trans (hb6.mono HB5.out.size))
            clear hb6
            go_wp2_with fail
            refine (CSame2.out _ _ HB6.out).mono ?_
            rintro e w7 ⟨r2, rfl, hr2, hb7⟩
            obtain rfl := hr1.same hr2
            have HB7 : Hid (Below w.heap.size w w7) := Lib.hid (HB6.out.trans (hb7.mono HB6.out.size))
            clear hb7 hr1 hr2
            go_wp2_with fail
            refine (CSame.out _ _ HB7.out).mono ?_
            rintro e w8 ⟨r3, rfl, hr3, hb8⟩
            have HB8 : Hid (Below w.heap.size w w8) := Lib.hid (HB7.out.trans (hb8.mono HB7.out.size))
            clear hb8
            go_wp2_with fail
            refine (CSame2.out _ _ HB8.out).mono ?_
            rintro e w9 ⟨r4, rfl, hr4, hb9⟩
            obtain rfl := hr3.same hr4
            have HB9 : Hid (Below w.heap.size w w9) := Lib.hid (HB8.out.trans (hb9.mono HB8.out.size))
            clear hb9 hr3 hr4
            by_cases hn0 : n = 0
            · subst hn0
              by_cases hk0 : k = 0
              · subst hk0
                go_wp2_with fail
                refine (CP.out _ HB9.out).mono ?_
                rintro e wa ⟨q1, rfl, hq1, hba⟩
                have HBa : Hid (Below w.heap.size w wa) := Lib.hid (HB9.out.trans (hba.mono HB9.out.size))
                clear hba
                go_wp2_with fail
                refine (CIA.out _ HBa.out).mono ?_
                rintro e wb ⟨iv, rfl, hoa, hbb⟩
                have HBb : Hid (Below w.heap.size w wb) := Lib.hid (HBa.out.trans (hbb.mono HBa.out.size))
                obtain ⟨ia, ic, rfl⟩ := own_shape hoa
                have HOA := Lib.hid hoa
                clear hbb hoa
                go_wp2_with fail
                refine (CIT.out _ HBb.out).mono ?_
                rintro e wc ⟨jv, rfl, hot, hbc⟩
                have HBc : Hid (Below w.heap.size w wc) := Lib.hid (HBb.out.trans (hbc.mono HBb.out.size))
                have CRP2 := Lib.hid (CRP.out wc _ _ (Sl.of_own (own_below HOA.out hbc)) (Sl.of_own hot))
                obtain ⟨ja, jc, rfl⟩ := own_shape hot
                clear hbc hot
                go_wp2_with fail
                refine CRP2.out.mono ?_
                rintro e wd ⟨q2, rfl, hq2, hbd⟩
                obtain rfl := hq1.same hq2
                have HBd : Hid (Below w.heap.size w wd) := Lib.hid (HBc.out.trans (hbd.mono HBc.out.size))
                clear hbd hq1 hq2
                go_wp2
                go_ret
                exact ⟨by simp, HBd.out⟩
              · have hkp : (0 : Int) < (k : Int) := by omega
                go_wp2_with fail
                refine (CRT.out _ HB9.out).mono ?_
                rintro e wy ⟨ry, rfl, hby⟩
                have HBY : Hid (Below w.heap.size w wy) := Lib.hid (HB9.out.trans (hby.mono HB9.out.size))
                clear hby
                cases ry
                · go_wp2
                  go_ret
                  exact ⟨rfl, HBY.out⟩
                ·
                  go_wp2_with fail
                  refine (CP.out _ HBY.out).mono ?_
                  rintro e wa ⟨q1, rfl, hq1, hba⟩
                  have HBa : Hid (Below w.heap.size w wa) := Lib.hid (HBY.out.trans (hba.mono HBY.out.size))
                  clear hba
                  go_wp2_with fail
                  refine (CIA.out _ HBa.out).mono ?_
                  rintro e wb ⟨iv, rfl, hoa, hbb⟩
                  have HBb : Hid (Below w.heap.size w wb) := Lib.hid (HBa.out.trans (hbb.mono HBa.out.size))
                  obtain ⟨ia, ic, rfl⟩ := own_shape hoa
                  have HOA := Lib.hid hoa
                  clear hbb hoa
                  go_wp2_with fail
                  refine (CIT.out _ HBb.out).mono ?_
                  rintro e wc ⟨jv, rfl, hot, hbc⟩
                  have HBc : Hid (Below w.heap.size w wc) := Lib.hid (HBb.out.trans (hbc.mono HBb.out.size))
                  have CRP2 := Lib.hid (CRP.out wc _ _ (Sl.of_own (own_below HOA.out hbc)) (Sl.of_own hot))
                  obtain ⟨ja, jc, rfl⟩ := own_shape hot
                  clear hbc hot
                  go_wp2_with fail
                  refine CRP2.out.mono ?_
                  rintro e wd ⟨q2, rfl, hq2, hbd⟩
                  obtain rfl := hq1.same hq2
                  have HBd : Hid (Below w.heap.size w wd) := Lib.hid (HBc.out.trans (hbd.mono HBc.out.size))
                  clear hbd hq1 hq2
                  go_wp2
                  go_ret
                  exact ⟨by simp, HBd.out⟩
            · have hnp : (0 : Int) < (n : Int) := by omega
              go_wp2_with fail
              refine (CRA.out _ HB9.out).mono ?_
              rintro e wx ⟨rx, rfl, hbx⟩
              have HBX : Hid (Below w.heap.size w wx) := Lib.hid (HB9.out.trans (hbx.mono HB9.out.size))
              clear hbx
              cases rx
              · go_wp2
                go_ret
                exact ⟨rfl, HBX.out⟩
              ·
                by_cases hk0 : k = 0
                · subst hk0
                  go_wp2_with fail
                  refine (CP.out _ HBX.out).mono ?_
                  rintro e wa ⟨q1, rfl, hq1, hba⟩
                  have HBa : Hid (Below w.heap.size w wa) := Lib.hid (HBX.out.trans (hba.mono HBX.out.size))
                  clear hba
                  go_wp2_with fail
                  refine (CIA.out _ HBa.out).mono ?_
                  rintro e wb ⟨iv, rfl, hoa, hbb⟩
                  have HBb : Hid (Below w.heap.size w wb) := Lib.hid (HBa.out.trans (hbb.mono HBa.out.size))
                  obtain ⟨ia, ic, rfl⟩ := own_shape hoa
                  have HOA := Lib.hid hoa
                  clear hbb hoa
                  go_wp2_with fail
                  refine (CIT.out _ HBb.out).mono ?_
                  rintro e wc ⟨jv, rfl, hot, hbc⟩
                  have HBc : Hid (Below w.heap.size w wc) := Lib.hid (HBb.out.trans (hbc.mono HBb.out.size))
                  have CRP2 := Lib.hid (CRP.out wc _ _ (Sl.of_own (own_below HOA.out hbc)) (Sl.of_own hot))
                  obtain ⟨ja, jc, rfl⟩ := own_shape hot
                  clear hbc hot
                  go_wp2_with fail
                  refine CRP2.out.mono ?_
                  rintro e wd ⟨q2, rfl, hq2, hbd⟩
                  obtain rfl := hq1.same hq2
                  have HBd : Hid (Below w.heap.size w wd) := Lib.hid (HBc.out.trans (hbd.mono HBc.out.size))
                  clear hbd hq1 hq2
                  go_wp2
                  go_ret
                  exact ⟨by simp, HBd.out⟩
                · have hkp : (0 : Int) < (k : Int) := by omega
                  go_wp2_with fail
                  refine (CRT.out _ HBX.out).mono ?_
                  rintro e wy ⟨ry, rfl, hby⟩
                  have HBY : Hid (Below w.heap.size w wy) := Lib.hid (HBX.out.trans (hby.mono HBX.out.size))
                  clear hby
                  cases ry
                  · go_wp2
                    go_ret
                    exact ⟨rfl, HBY.out⟩
                  ·
                    go_wp2_with fail
                    refine (CP.out _ HBY.out).mono ?_
                    rintro e wa ⟨q1, rfl, hq1, hba⟩
                    have HBa : Hid (Below w.heap.size w wa) := Lib.hid (HBY.out.trans (hba.mono HBY.out.size))
                    clear hba
                    go_wp2_with fail
                    refine (CIA.out _ HBa.out).mono ?_
                    rintro e wb ⟨iv, rfl, hoa, hbb⟩
                    have HBb : Hid (Below w.heap.size w wb) := Lib.hid (HBa.out.trans (hbb.mono HBa.out.size))
                    obtain ⟨ia, ic, rfl⟩ := own_shape hoa
                    have HOA := Lib.hid hoa
                    clear hbb hoa
                    go_wp2_with fail
                    refine (CIT.out _ HBb.out).mono ?_
                    rintro e wc ⟨jv, rfl, hot, hbc⟩
                    have HBc : Hid (Below w.heap.size w wc) := Lib.hid (HBb.out.trans (hbc.mono HBb.out.size))
                    have CRP2 := Lib.hid (CRP.out wc _ _ (Sl.of_own (own_below HOA.out hbc)) (Sl.of_own hot))
                    obtain ⟨ja, jc, rfl⟩ := own_shape hot
                    clear hbc hot
                    go_wp2_with fail
                    refine CRP2.out.mono ?_
                    rintro e wd ⟨q2, rfl, hq2, hbd⟩
                    obtain rfl := hq1.same hq2
                    have HBd : Hid (Below w.heap.size w wd) := Lib.hid (HBc.out.trans (hbd.mono HBc.out.size))
                    clear hbd hq1 hq2
                    go_wp2
                    go_ret
                    exact ⟨by simp, HBd.out⟩
end Go.Proofs.YtdelgbkllnccoaaDoor
