/-
  The document's side: a command that has lists.
-/
import Derived.Test.YtnackmnoldkihaaGreatDoorW29
set_option linter.unusedVariables false
set_option linter.unusedSimpArgs false
namespace Go.Proofs.YtnackmnoldkihaaGreatDoor
open Go.RowKit

/-- The first command's kind. -/
def kind0 (x : Nd) : Int := match x.lists with | (z :: _) :: _ => z.kind | _ => 0
def rcompoundB (wd : List Pt → Bool) (ls : List Nd → Bool) (x : Nd) : Bool :=
 bif x.kind == 6 then (x.assigns.isEmpty && ((L x.name).isEmpty && ((x.words.isEmpty && x.arms.isEmpty) && (decide (x.lists.length = 2) || decide (x.lists.length = 3))))) else
 bif x.kind == 7 || x.kind == 8 then (x.assigns.isEmpty && ((L x.name).isEmpty && ((x.words.isEmpty && x.arms.isEmpty) && decide (x.lists.length = 2)))) else
 bif x.kind == 12 || x.kind == 13 then (x.assigns.isEmpty && ((L x.name).isEmpty && ((x.words.isEmpty && x.arms.isEmpty) && decide (x.lists.length = 1)))) else
 bif x.kind == 9 then (x.assigns.isEmpty && (nameL (L x.name) && (x.arms.isEmpty && decide (x.lists.length = 1)))) else
 bif x.kind == 11 then (x.assigns.isEmpty && (nameL (L x.name) && (!oneB reservedWs (L x.name) && ((x.words.isEmpty && (x.arms.isEmpty && x.redirs.isEmpty)) && (decide (x.lists.length = 1) && (aloneL x && (decide (6 ≤ kind0 x) && kind0 x != 11))))))) else
 bif x.kind == 10 then (x.arms.all (armB wd ls) && (x.assigns.isEmpty && ((L x.name).isEmpty && (decide (x.words.length = 1) && decide (x.lists.length = 0))))) else false
theorem len_beq {n : Nat} (k : Nat) : ((n : Int) == (k : Int)) = decide (n = k) := by
 rw [Bool.eq_iff_iff]; simp; omega

set_option maxHeartbeats 8000000 in
set_option maxRecDepth 100000 in
theorem rcompound_any (wd : List Pt → Bool) (ls : List Nd → Bool) (level deep : Int) (hl0 : 0 ≤ level) (hl1 : level ≤ 2000) (hwd : RWordAt (level + 1) deep wd) (hls : RListAt (level + 1) deep ls) (x : Nd) (w : World) (d : Nat) (c : List Value) (hp : NdC w w.heap.size d x c) :
 Calls Tryz.prog 59 #[.agg c.toArray, .int .i64 level, .int .i64 deep] w fun e w' => e = .returned (.bool (rcompoundB wd ls x)) ∧ Below w.heap.size w w' := by
 have CA : Hid (∀ W, Below w.heap.size w W → Calls Tryz.prog 74 #[.agg c.toArray] W fun e w' => e = .returned (.bool (aloneL x)) ∧ Below W.heap.size W w') := Lib.hid fun W hW => ralone_any x W d c (hp.later hW)
 obtain ⟨a1, c1, a2, c2, a3, c3, a4, c4, a5, c5, rfl, hxz, ⟨hn1, hn2, hn3, hn4, hn5⟩, hA, hW, hRd, hLs, hAr⟩ := hp.open
 obtain ⟨n1, hl1⟩ : ∃ n, x.assigns.length = n := ⟨_, rfl⟩
 obtain ⟨n2, hl2⟩ : ∃ n, x.words.length = n := ⟨_, rfl⟩
 obtain ⟨n3, hl3⟩ : ∃ n, x.redirs.length = n := ⟨_, rfl⟩
 obtain ⟨n4, hl4⟩ : ∃ n, x.lists.length = n := ⟨_, rfl⟩
 obtain ⟨n5, hl5⟩ : ∃ n, x.arms.length = n := ⟨_, rfl⟩
 rw [hl1] at hn1 CA ⊢
 rw [hl2] at hn2 CA ⊢
 rw [hl3] at hn3 CA ⊢
 rw [hl4] at hn4 hLs CA ⊢
 rw [hl5] at hn5 hAr CA ⊢
 have HLS := Lib.hid hLs
 have HAR := Lib.hid hAr
 have N4 := Lib.hid hl4
 have N5 := Lib.hid hl5
 have HWD := Lib.hid hwd
 have HLSS := Lib.hid hls
 have E5 := Lib.hid (nil_beq hl5)
 have E25 := Lib.hid (sum2_zero hl2 hl5)
 have E253 := Lib.hid (sum3_pos hl2 hl5 hl3)
 have CNm : Hid (∀ W, Below w.heap.size w W → Calls Tryz.prog 22 #[.string x.name] W fun e w' => e = .returned (.bool (nameL (L x.name))) ∧ Below W.heap.size W w') := Lib.hid fun W _ => (rname_any x.name W (by unfold maxLen; omega)).mono fun e w' h => ⟨h.1, by first | exact h.2 | (rw [h.2]; exact Below.refl _ _) | (rw [← h.2]; exact Below.refl _ _)⟩
 have CRs : Hid (∀ W, Below w.heap.size w W → Calls Tryz.prog 28 #[.string x.name] W fun e w' => e = .returned (.bool (oneB reservedWs (L x.name))) ∧ Below W.heap.size W w') := Lib.hid fun W _ => rreserved_any x.name W
 have BK := Lib.hid (Bk.start w 64 #[.int .i64 x.kind, .string x.name, .slice a1 n1 c1, .slice a2 n2 c2, .slice a3 n3 c3, .slice a4 n4 c4, .slice a5 n5 c5])
 obtain ⟨r, hr⟩ : ∃ r, rcompoundB wd ls x = r := ⟨_, rfl⟩
 rw [hr]
 rw [rcompoundB, hl2, hl4] at hr
 obtain ⟨xk, hxk⟩ : ∃ v, x.kind = v := ⟨_, rfl⟩
 rw [hxk] at hr CA BK ⊢
 obtain ⟨ne, hne⟩ : ∃ b, (L x.name).isEmpty = b := ⟨_, rfl⟩
 have ENE := Lib.hid ((isEmpty_L x.name).trans hne)
 obtain ⟨ae, hae⟩ : ∃ b, x.assigns.isEmpty = b := ⟨_, rfl⟩
 have HAE := Lib.hid ((nil_of hl1).symm.trans hae)
 rw [hae] at hr
 obtain ⟨me, hme⟩ : ∃ b, x.arms.isEmpty = b := ⟨_, rfl⟩
 obtain ⟨wm, hwm⟩ : ∃ b, (x.words.isEmpty && x.arms.isEmpty) = b := ⟨_, rfl⟩
 obtain ⟨sm, hsm⟩ : ∃ b, (!(x.words.isEmpty && (x.arms.isEmpty && x.redirs.isEmpty))) = b := ⟨_, rfl⟩
 have hsm2 : (x.words.isEmpty && (x.arms.isEmpty && x.redirs.isEmpty)) = !sm := by rw [← hsm, Bool.not_not]
 rw [hwm, hsm2, hme, hne] at hr
 rw [hme] at E5
 rw [hwm] at E25
 rw [hsm] at E253
 obtain ⟨al, hal⟩ : ∃ b, aloneL x = b := ⟨_, rfl⟩
 have HAL := Lib.hid hal
 rw [hal] at hr CA
 obtain ⟨nm, hnm⟩ : ∃ b, nameL (L x.name) = b := ⟨_, rfl⟩
 obtain ⟨rs, hrs⟩ : ∃ b, oneB reservedWs (L x.name) = b := ⟨_, rfl⟩
 rw [hnm, hrs] at hr
 rw [hnm] at CNm
 rw [hrs] at CRs
 have HR := Lib.hid hr.symm
 have HK0 : Hid (kind0 x = match x.lists with | (z :: _) :: _ => z.kind | _ => 0) := Lib.hid rfl
 clear hp hr hA hW hRd hLs hAr hl1 hl2 hl3 hl4 hl5 hxk hne hae hme hwm hsm hsm2 hal hnm hrs hwd hls

 have f2 := ENE.out
 have f3 := E25.out
 rcases Nat.eq_zero_or_pos n1 with hn0 | hn0
 · subst hn0
   have HA1 : Hid (ae = true) := Lib.hid (by rw [← HAE.out]; rfl)
   by_cases h6 : xk = 6
   · subst h6
     have HE : Hid (r = (ae && (ne && (wm && (decide (n4 = 2) || decide (n4 = 3)))))) := HR
     rw [HA1.out] at HE
     clear HR
     by_cases h2 : n4 = 2
     · have g2 : ((n4 : Int) == 2) = true := by simp [h2]
       have HE2 : Hid (r = (true && (ne && wm))) := Lib.hid (by rw [HE.out]; simp [h2])
       clear h2
       cases ne
       all_goals cases wm
       all_goals
        go_enter Tryz.func59, Tryz.ntmps59
        go_wp2_with fail
        go_ret
        exact ⟨ret_bool (by first | (rw [HE2.out]; done) | (rw [HE2.out]; rfl)), bg⟩
     · have g2 : ((n4 : Int) == 2) = false := by simp; omega
       by_cases h3 : n4 = 3
       · have g3 : ((n4 : Int) == 3) = true := by simp [h3]
         have HE2 : Hid (r = (true && (ne && wm))) := Lib.hid (by rw [HE.out]; simp [h3])
         clear h3 h2
         cases ne
         all_goals cases wm
         all_goals
          go_enter Tryz.func59, Tryz.ntmps59
          go_wp2_with fail
          go_ret
          exact ⟨ret_bool (by first | (rw [HE2.out]; done) | (rw [HE2.out]; rfl)), bg⟩
       · have g3 : ((n4 : Int) == 3) = false := by simp; omega
         have HE2 : Hid (r = false) := Lib.hid (by rw [HE.out]; simp [h2, h3])
         clear h3 h2
         cases ne
         all_goals cases wm
         all_goals
          go_enter Tryz.func59, Tryz.ntmps59
          go_wp2_with fail
          go_ret
          exact ⟨ret_bool (by first | (rw [HE2.out]; done) | (rw [HE2.out]; rfl)), bg⟩
   · have k6 : (xk == 6) = false := by simp [h6]
     have HR1 := Lib.hid (HR.out.trans (by rw [k6, cond_false]))
     clear HR h6
     by_cases h7 : xk = 7
     · subst h7
       have HE : Hid (r = (ae && (ne && (wm && decide (n4 = 2))))) := Lib.hid (HR1.out)
       rw [HA1.out] at HE
       by_cases hc : n4 = 2
       · have gc : ((n4 : Int) == 2) = true := by simp [hc]
         have HE2 : Hid (r = (true && (ne && wm))) := Lib.hid (by rw [HE.out]; simp [hc])
         clear hc HE
         cases ne
         all_goals cases wm
         all_goals
          go_enter Tryz.func59, Tryz.ntmps59
          go_wp2_with fail
          go_ret
          exact ⟨ret_bool (by first | (rw [HE2.out]; done) | (rw [HE2.out]; rfl)), bg⟩
       · have gc : ((n4 : Int) == 2) = false := by simp; omega
         have HE2 : Hid (r = false) := Lib.hid (by rw [HE.out]; simp [hc])
         clear hc HE
         cases ne
         all_goals cases wm
         all_goals
          go_enter Tryz.func59, Tryz.ntmps59
          go_wp2_with fail
          go_ret
          exact ⟨ret_bool (by first | (rw [HE2.out]; done) | (rw [HE2.out]; rfl)), bg⟩
     · have k7 : (xk == 7) = false := by simp [h7]
       by_cases h8 : xk = 8
       · subst h8
         have HE : Hid (r = (ae && (ne && (wm && decide (n4 = 2))))) := Lib.hid (HR1.out)
         rw [HA1.out] at HE
         by_cases hc : n4 = 2
         · have gc : ((n4 : Int) == 2) = true := by simp [hc]
           have HE2 : Hid (r = (true && (ne && wm))) := Lib.hid (by rw [HE.out]; simp [hc])
           clear hc HE
           cases ne
           all_goals cases wm
           all_goals
            go_enter Tryz.func59, Tryz.ntmps59
            go_wp2_with fail
            go_ret
            exact ⟨ret_bool (by first | (rw [HE2.out]; done) | (rw [HE2.out]; rfl)), bg⟩
         · have gc : ((n4 : Int) == 2) = false := by simp; omega
           have HE2 : Hid (r = false) := Lib.hid (by rw [HE.out]; simp [hc])
           clear hc HE
           cases ne
           all_goals cases wm
           all_goals
            go_enter Tryz.func59, Tryz.ntmps59
            go_wp2_with fail
            go_ret
            exact ⟨ret_bool (by first | (rw [HE2.out]; done) | (rw [HE2.out]; rfl)), bg⟩
       · have k8 : (xk == 8) = false := by simp [h8]
         have HR2 := Lib.hid (HR1.out.trans (by rw [k7, k8, Bool.or_false, cond_false]))
         clear HR1 h7 h8
         by_cases h12 : xk = 12
         · subst h12
           have HE : Hid (r = (ae && (ne && (wm && decide (n4 = 1))))) := Lib.hid (HR2.out)
           rw [HA1.out] at HE
           by_cases hc : n4 = 1
           · have gc : ((n4 : Int) == 1) = true := by simp [hc]
             have HE2 : Hid (r = (true && (ne && wm))) := Lib.hid (by rw [HE.out]; simp [hc])
             clear hc HE
             cases ne
             all_goals cases wm
             all_goals
              go_enter Tryz.func59, Tryz.ntmps59
              go_wp2_with fail
              go_ret
              exact ⟨ret_bool (by first | (rw [HE2.out]; done) | (rw [HE2.out]; rfl)), bg⟩
           · have gc : ((n4 : Int) == 1) = false := by simp; omega
             have HE2 : Hid (r = false) := Lib.hid (by rw [HE.out]; simp [hc])
             clear hc HE
             cases ne
             all_goals cases wm
             all_goals
              go_enter Tryz.func59, Tryz.ntmps59
              go_wp2_with fail
              go_ret
              exact ⟨ret_bool (by first | (rw [HE2.out]; done) | (rw [HE2.out]; rfl)), bg⟩
         · have k12 : (xk == 12) = false := by simp [h12]
           by_cases h13 : xk = 13
           · subst h13
             have HE : Hid (r = (ae && (ne && (wm && decide (n4 = 1))))) := Lib.hid (HR2.out)
             rw [HA1.out] at HE
             by_cases hc : n4 = 1
             · have gc : ((n4 : Int) == 1) = true := by simp [hc]
               have HE2 : Hid (r = (true && (ne && wm))) := Lib.hid (by rw [HE.out]; simp [hc])
               clear hc HE
               cases ne
               all_goals cases wm
               all_goals
                go_enter Tryz.func59, Tryz.ntmps59
                go_wp2_with fail
                go_ret
                exact ⟨ret_bool (by first | (rw [HE2.out]; done) | (rw [HE2.out]; rfl)), bg⟩
             · have gc : ((n4 : Int) == 1) = false := by simp; omega
               have HE2 : Hid (r = false) := Lib.hid (by rw [HE.out]; simp [hc])
               clear hc HE
               cases ne
               all_goals cases wm
               all_goals
                go_enter Tryz.func59, Tryz.ntmps59
                go_wp2_with fail
                go_ret
                exact ⟨ret_bool (by first | (rw [HE2.out]; done) | (rw [HE2.out]; rfl)), bg⟩
           · have k13 : (xk == 13) = false := by simp [h13]
             have HR3 := Lib.hid (HR2.out.trans (by rw [k12, k13, Bool.or_false, cond_false]))
             clear HR2 h12 h13
             by_cases h9 : xk = 9
             · subst h9
               have HE : Hid (r = (ae && (nm && (me && decide (n4 = 1))))) := Lib.hid HR3.out
               rw [HA1.out] at HE
               have f5 := E5.out
               clear HR3 f2 f3 E25 ENE
               by_cases hc : n4 = 1
               · have gc : ((n4 : Int) == 1) = true := by simp [hc]
                 have HE2 : Hid (r = (nm && me)) := Lib.hid (by rw [HE.out]; simp [hc])
                 clear hc HE
                 cases nm
                 all_goals cases me
                 all_goals
                  go_enter Tryz.func59, Tryz.ntmps59
                  go_wp2_with fail
                  refine (CNm.out _ bg).mono ?_
                  rintro e w1 ⟨rfl, hb0⟩
                  have hBw1 : Below w.heap.size w w1 := since hb0 bg
                  have BKw1 := Lib.hid (Bk.later BK.out (since hb0 bg))
                  clear hb0
                  have K1BKw1 := Lib.hid BKw1.out.b
                  have hBBKw1 := BKw1.out.hb
                  obtain ⟨p0, p1, p2, p3, p4, p5, p6, pl⟩ := K1BKw1.out.box7
                  go_wp2_with fail
                  go_ret
                  exact ⟨ret_bool (by rw [HE2.out]; rfl), bg⟩
               · have gc : ((n4 : Int) == 1) = false := by simp; omega
                 have HE2 : Hid (r = false) := Lib.hid (by rw [HE.out]; simp [hc])
                 clear hc HE
                 cases nm
                 all_goals cases me
                 all_goals
                  go_enter Tryz.func59, Tryz.ntmps59
                  go_wp2_with fail
                  refine (CNm.out _ bg).mono ?_
                  rintro e w1 ⟨rfl, hb0⟩
                  have hBw1 : Below w.heap.size w w1 := since hb0 bg
                  have BKw1 := Lib.hid (Bk.later BK.out (since hb0 bg))
                  clear hb0
                  have K1BKw1 := Lib.hid BKw1.out.b
                  have hBBKw1 := BKw1.out.hb
                  obtain ⟨p0, p1, p2, p3, p4, p5, p6, pl⟩ := K1BKw1.out.box7
                  go_wp2_with fail
                  go_ret
                  exact ⟨ret_bool HE2.out.symm, bg⟩
             · have k9 : (xk == 9) = false := by simp [h9]
               have HR4 := Lib.hid (HR3.out.trans (by rw [k9, cond_false]))
               clear HR3 h9
               by_cases h11 : xk = 11
               · subst h11
                 have HE : Hid (r = (ae && (nm && (!rs && (!sm && (decide (n4 = 1) && (al && (decide (6 ≤ kind0 x) && kind0 x != 11)))))))) := Lib.hid HR4.out
                 rw [HA1.out] at HE
                 have f5 := E253.out
                 clear HR4 f2 f3 E25 ENE
                 go_enter Tryz.func59, Tryz.ntmps59
                 go_wp2_with fail
                 refine (CNm.out _ bg).mono ?_
                 rintro e w1 ⟨rfl, hb0⟩
                 have hBw1 : Below w.heap.size w w1 := since hb0 bg
                 have BKw1 := Lib.hid (Bk.later BK.out (since hb0 bg))
                 clear hb0
                 have K1BKw1 := Lib.hid BKw1.out.b
                 have hBBKw1 := BKw1.out.hb
                 obtain ⟨p0, p1, p2, p3, p4, p5, p6, pl⟩ := K1BKw1.out.box7
                 cases nm with
                 | false =>
                   go_wp2_with fail
                   go_ret
                   exact ⟨ret_bool (by rw [HE.out]; rfl), bg⟩
                 | true =>
                   go_wp2_with fail
                   refine (CRs.out _ bg).mono ?_
                   rintro e w2 ⟨rfl, hb0⟩
                   have hBw2 : Below w.heap.size w w2 := since hb0 bg
                   have BKw2 := Lib.hid (Bk.later BKw1.out (since hb0 bg))
                   clear hb0
                   clear p0 p1 p2 p3 p4 p5 p6 pl
                   have K1BKw2 := Lib.hid BKw2.out.b
                   have hBBKw2 := BKw2.out.hb
                   obtain ⟨p0, p1, p2, p3, p4, p5, p6, pl⟩ := K1BKw2.out.box7
                   cases rs with
                   | true =>
                     go_wp2_with fail
                     go_ret
                     exact ⟨ret_bool (by rw [HE.out]; rfl), bg⟩
                   | false =>
                     cases sm with
                     | true =>
                       go_wp2_with fail
                       go_ret
                       exact ⟨ret_bool (by rw [HE.out]; rfl), bg⟩
                     | false =>
                       by_cases hc : n4 = 1
                       · subst hc
                         have HE1 : Hid (r = (al && (decide (6 ≤ kind0 x) && kind0 x != 11))) := Lib.hid (by rw [HE.out]; rfl)
                         go_wp2_with fail
                         refine (CA.out _ bg).mono ?_
                         rintro e w3 ⟨rfl, hb0⟩
                         have hBw3 : Below w.heap.size w w3 := since hb0 bg
                         have BKw3 := Lib.hid (Bk.later BKw2.out (since hb0 bg))
                         clear hb0
                         clear p0 p1 p2 p3 p4 p5 p6 pl
                         have K1BKw3 := Lib.hid BKw3.out.b
                         have hBBKw3 := BKw3.out.hb
                         obtain ⟨p0, p1, p2, p3, p4, p5, p6, pl⟩ := K1BKw3.out.box7
                         cases al with
                         | false =>
                           go_wp2_with fail
                           go_ret
                           exact ⟨ret_bool (by rw [HE1.out]; rfl), bg⟩
                         | true =>
                           obtain ⟨y, hy⟩ : ∃ y, x.lists = [y] := List.length_eq_one_iff.1 N4.out
                           have hy1 : y.length = 1 := by
                            have := HAL.out
                            rw [aloneL, List.all_eq_true] at this
                            simpa using this y (by rw [hy]; simp)
                           obtain ⟨z, hz⟩ : ∃ z, y = [z] := List.length_eq_one_iff.1 hy1
                           have HKZ : Hid (kind0 x = z.kind) := Lib.hid (by rw [HK0.out, hy, hz])
                           obtain ⟨b, o, c, hi, hbB, hce, ⟨yv, rfl, hyp⟩, _⟩ := HLS.out.at 61 25 Tryz.underlying61 (by kernel_rfl) (k := 0) (x := y) (by rw [hy]; rfl)
                           obtain ⟨d2, hyp2⟩ := hyp.up
                           obtain ⟨a6, c6, rfl, _⟩ := hyp.shape
                           rw [hy1] at hce hyp2
                           obtain ⟨b2, o2, cz, hi2, hbB2, hce2, hCz, _⟩ := hyp2.at 25 64 Tryz.underlying25 (by kernel_rfl) (k := 0) (x := z) (by rw [hz]; rfl)
                           have hi3 : ∀ w' : World, (Instr.indexAt 25 (.slice a6 1 c6) (.int .i64 0)).run Tryz.prog w' = .ok (.pointer (some ⟨b2, o2, none⟩)) w' := hi2
                           have hi4 : ∀ w' : World, (Instr.indexAt 61 (.slice a4 1 c4) (.int .i64 0)).run Tryz.prog w' = .ok (.pointer (some ⟨b, o, none⟩)) w' := hi
                           obtain ⟨_, _, _, _, _, _, _, _, _, _, rfl, _⟩ := hCz.open
                           have e0 := (hBBKw3.cell hbB).trans (hce 0 _ rfl)
                           have g0 := (hBBKw3.cell hbB2).trans (hce2 0 _ rfl)
                           have hbB' := Nat.lt_of_lt_of_le hbB hBBKw3.size
                           have hbB2' := Nat.lt_of_lt_of_le hbB2 hBBKw3.size
                           rw [Nat.add_zero] at e0 g0
                           obtain ⟨zk, hzk⟩ : ∃ v, z.kind = v := ⟨_, rfl⟩
                           rw [hzk] at g0 HKZ
                           have HE2 : Hid (r = (decide (6 ≤ zk) && zk != 11)) := Lib.hid (by rw [HE1.out, HKZ.out]; rfl)
                           clear hy hce hyp hy1 hz hyp2 hi hi2 hce2 hCz hzk
                           cases z6 : decide (6 ≤ zk)
                           all_goals cases z11 : (zk == 11)
                           all_goals
                            have z11n : (zk != 11) = !(zk == 11) := rfl
                            rw [z11] at z11n
                            go_wp2_with fail
                            go_ret
                            exact ⟨ret_bool (by rw [HE2.out, z6, z11n]; rfl), bg⟩
                       · have gc : ((n4 : Int) == 1) = false := by simp; omega
                         have gn : ((n4 : Int) != 1) = true := by rw [bne, gc]; rfl
                         have HE2 : Hid (r = false) := Lib.hid (by rw [HE.out]; simp [hc])
                         clear hc HE
                         go_wp2_with fail
                         go_ret
                         exact ⟨ret_bool HE2.out.symm, bg⟩
               · have k11 : (xk == 11) = false := by simp [h11]
                 have HR5 := Lib.hid (HR4.out.trans (by rw [k11, cond_false]))
                 clear HR4 h11
                 by_cases h10 : xk = 10
                 · subst h10
                   have HE : Hid (r = (x.arms.all (armB wd ls) && (ae && (ne && (decide (n2 = 1) && decide (n4 = 0)))))) := Lib.hid HR5.out
                   rw [HA1.out] at HE
                   clear HR5 f3 E25
                   go_enter Tryz.func59, Tryz.ntmps59
                   go_wp2_with fail
                   go_loopw [10] (fun i W => ∃ k : Nat, k ≤ n5 ∧ i = .int .i64 k ∧ (x.arms.take k).all (armB wd ls) = true ∧ Bk w W 64 #[.int .i64 10, .string x.name, .slice a1 0 c1, .slice a2 n2 c2, .slice a3 n3 c3, .slice a4 n4 c4, .slice a5 n5 c5]) (fun i _ => n5 - (intOf i).toNat)
                   case atStart => exact ⟨0, Nat.zero_le _, rfl, by simp, BK.out⟩
                   case round =>
                    obtain ⟨k, hk, rfl, hal, hbk⟩ := hrel
                    have HAA := Lib.hid hal
                    have BK1 := Lib.hid hbk
                    clear hal hbk
                    have K1BK1 := Lib.hid BK1.out.b
                    have hBBK1 := BK1.out.hb
                    obtain ⟨p0, p1, p2, p3, p4, p5, p6, pl⟩ := K1BK1.out.box7
                    by_cases hlt : k < n5
                    · obtain ⟨y, hy⟩ : ∃ y, x.arms[k]? = .some y := ⟨_, List.getElem?_eq_getElem (by rw [N5.out]; exact hlt)⟩
                      obtain ⟨b, o, c, hi, hbB, hce, ⟨wv, yv, rfl, hyw, hyb⟩, _⟩ := HAR.out.at 62 92 Tryz.underlying62 (by kernel_rfl) hy
                      have HY := Lib.hid hy
                      obtain ⟨a6, c6, rfl, _⟩ := hyb.shape
                      obtain ⟨a8, c8, rfl, hyz⟩ := hyw.len
                      obtain ⟨ny, hny⟩ : ∃ n, y.words.length = n := ⟨_, rfl⟩
                      have CLb := Lib.hid (HLSS.out.reads hyb true)
                      have HF : Hid (armB wd ls y = (!y.words.isEmpty && (ls y.body && y.words.all (someB wd)))) := Lib.hid rfl
                      rw [hny] at hce hyw hyz
                      have HYW := Lib.hid hyw
                      have NY := Lib.hid hny
                      have e0 := (hBBK1.cell hbB).trans (hce 0 _ rfl)
                      have e1 := (hBBK1.cell hbB).trans (hce 1 _ rfl)
                      have hbB' := Nat.lt_of_lt_of_le hbB hBBK1.size
                      rw [Nat.add_zero] at e0
                      obtain ⟨lr, hlr⟩ : ∃ b, (ls y.body && (true || !y.body.isEmpty)) = b := ⟨_, rfl⟩
                      rw [hlr] at CLb
                      rw [Bool.true_or, Bool.and_true] at hlr
                      rw [hlr] at HF
                      clear hy hce hyw hyb hny hlr
                      rcases Nat.eq_zero_or_pos ny with h0 | h0
                      · have HE2 : Hid (r = false) := Lib.hid (by rw [HE.out, all_no HY.out (show armB wd ls y = false by rw [HF.out, nil_of_len NY.out h0]; rfl)]; rfl)
                        subst h0
                        go_wp2_with fail
                        go_ret
                        exact ⟨ret_bool HE2.out.symm, bg⟩
                      · have gy : ((ny : Int) == 0) = false := by simp; omega
                        have HF2 : Hid (armB wd ls y = (lr && y.words.all (someB wd))) := Lib.hid (by rw [HF.out, not_nil_of_len NY.out h0]; rfl)
                        obtain ⟨g, hgd⟩ : ∃ g, g = wr.heap.size := ⟨_, rfl⟩
                        have hgB : w.heap.size ≤ g := by rw [hgd]; exact hBBK1.size
                        have hgl : w.heap.size < g := by rw [hgd]; exact BK1.out.b.lt
                        have HST : Hid (∀ (cs : Array Value), Blk (wr.alloc (.cells cs 92)) g 92 cs) := Lib.hid fun cs => Blk.at hgd
                        go_wp2_with fail
                        refine (CLb.out _ bg).mono ?_
                        rintro e w1 ⟨rfl, hb0⟩
                        have hB1 : Below w.heap.size w w1 := since hb0 bg
                        have BKw1 := Lib.hid (Bk.later BK1.out ((show Below wr.heap.size wr (wr.alloc _) from bg).trans (hb0.mono (by simp))))
                        have HAB := Lib.hid ((HST.out _).below hb0 (by rw [hgd]; simp))
                        clear hb0 HST
                        rw [← hgd]
                        clear p0 p1 p2 p3 p4 p5 p6 pl
                        clear e0 e1 hi hgd
                        cases lr with
                        | false =>
                          have HE2 : Hid (r = false) := Lib.hid (by rw [HE.out, all_no HY.out (show armB wd ls y = false by rw [HF2.out]; rfl)]; rfl)
                          go_wp2_with fail
                          go_ret
                          exact ⟨ret_bool HE2.out.symm, bg⟩
                        | true =>
                          have HF3 : Hid (armB wd ls y = y.words.all (someB wd)) := Lib.hid (by rw [HF2.out, Bool.true_and])
                          go_wp2_with fail
                          go_loopw [12] (fun i W => ∃ m : Nat, m ≤ ny ∧ i = .int .i64 m ∧ (y.words.take m).all (someB wd) = true ∧ Blk W g 92 #[.slice a8 ny c8, .slice a6 y.body.length c6] ∧ Bk w W 64 #[.int .i64 10, .string x.name, .slice a1 0 c1, .slice a2 n2 c2, .slice a3 n3 c3, .slice a4 n4 c4, .slice a5 n5 c5]) (fun i _ => ny - (intOf i).toNat)
                          case atStart => exact ⟨0, Nat.zero_le _, rfl, by simp, HAB.out, BKw1.out⟩
                          case round =>
                           obtain ⟨m, hm, rfl, hal, hab, hbk⟩ := hrel
                           have HAW := Lib.hid hal
                           have HAB2 := Lib.hid hab
                           have BK2 := Lib.hid hbk
                           clear hal hab hbk
                           have hBB2 := BK2.out.hb
                           obtain ⟨q0, q1, ql⟩ := HAB2.out.box2
                           by_cases hlt2 : m < ny
                           · obtain ⟨u, hu⟩ : ∃ u, y.words[m]? = .some u := ⟨_, List.getElem?_eq_getElem (by rw [NY.out]; exact hlt2)⟩
                             obtain ⟨b3, o3, c3', hi3, hbB3, hce3, ⟨uv, rfl, hup⟩, _⟩ := HYW.out.at 59 41 Tryz.underlying59 (by kernel_rfl) hu
                             have HU := Lib.hid hu
                             obtain ⟨a9, c9, rfl, _⟩ := hup.shape
                             have CW := Lib.hid (HWD.out.reads hup true)
                             have e3 := (hBB2.cell hbB3).trans (hce3 0 _ rfl)
                             have hbB3' := Nat.lt_of_lt_of_le hbB3 hBB2.size
                             rw [Nat.add_zero] at e3
                             obtain ⟨rr, hrr⟩ : ∃ r, (wd u && (!true || !u.isEmpty)) = r := ⟨_, rfl⟩
                             rw [hrr] at CW
                             have HS : Hid (someB wd u = rr) := Lib.hid (by rw [← hrr, someB]; simp)
                             clear hu hce3 hup hrr
                             go_wp2_with fail
                             refine (CW.out _ bg).mono ?_
                             rintro e w5 ⟨rfl, hb0⟩
                             have BKw5 := Lib.hid (Bk.later BK2.out hb0)
                             have HAB5 := Lib.hid (HAB2.out.below hb0 HAB2.out.lt)
                             have hB5 : Below w.heap.size w w5 := BKw5.out.hb
                             clear hb0
                             cases rr with
                             | false =>
                               have HE2 : Hid (r = false) := Lib.hid (by rw [HE.out, all_no HY.out (HF3.out.trans (all_no HU.out HS.out))]; rfl)
                               go_wp2_with fail
                               go_ret
                               exact ⟨ret_bool HE2.out.symm, bg⟩
                             | true =>
                               go_wp2_with fail
                               go_roundw
                               case rel => exact ⟨m + 1, by omega, by go_num, all_to HAW.out HU.out HS.out, HAB5.out, BKw5.out⟩
                               case measure => simp [intOf]; omega
                           · have HYES : Hid (armB wd ls y = true) := Lib.hid (HF3.out.trans (all_end HAW.out (by rw [NY.out]; omega)))
                             go_wp2_with fail
                             go_roundw
                             case rel => exact ⟨k + 1, by omega, by go_num, all_to HAA.out HY.out HYES.out, BK2.out⟩
                             case measure => simp [intOf]; omega
                    · have HEX : Hid (r = (true && (ne && (decide (n2 = 1) && decide (n4 = 0))))) := Lib.hid (by rw [HE.out, all_end HAA.out (by rw [N5.out]; omega)]; rfl)
                      clear HAA
                      by_cases hc2 : n2 = 1
                      · have gc2 : ((n2 : Int) == 1) = true := by simp [hc2]
                        by_cases hc4 : n4 = 0
                        · have gc4 : ((n4 : Int) == 0) = true := by simp [hc4]
                          have HE2 : Hid (r = (true && ne)) := Lib.hid (by rw [HEX.out]; simp [hc2, hc4])
                          clear hc2 hc4
                          cases ne
                          all_goals
                           go_wp2_with fail
                           go_ret
                           exact ⟨ret_bool (by first | (rw [HE2.out]; done) | (rw [HE2.out]; rfl)), bg⟩
                        · have gc4 : ((n4 : Int) == 0) = false := by simp; omega
                          have HE2 : Hid (r = false) := Lib.hid (by rw [HEX.out]; simp [hc4])
                          clear hc2 hc4
                          cases ne
                          all_goals
                           go_wp2_with fail
                           go_ret
                           exact ⟨ret_bool HE2.out.symm, bg⟩
                      · have gc2 : ((n2 : Int) == 1) = false := by simp; omega
                        have HE2 : Hid (r = false) := Lib.hid (by rw [HEX.out]; simp [hc2])
                        clear hc2
                        cases ne
                        all_goals
                         go_wp2_with fail
                         go_ret
                         exact ⟨ret_bool HE2.out.symm, bg⟩
                 · have k10 : (xk == 10) = false := by simp [h10]
                   have HE2 : Hid (r = false) := Lib.hid (HR5.out.trans (by rw [k10, cond_false]))
                   clear HR5 h10
                   go_enter Tryz.func59, Tryz.ntmps59
                   go_wp2_with fail
                   go_ret
                   exact ⟨ret_bool HE2.out.symm, bg⟩
 · have HA1 : Hid (ae = false) := Lib.hid (by rw [← HAE.out]; simp; omega)
   have f1 : decide ((0 : Int) < (n1 : Int)) = true := by simp; omega
   by_cases h6 : xk = 6
   · subst h6
     have HE : Hid (r = (ae && (ne && (wm && (decide (n4 = 2) || decide (n4 = 3)))))) := HR
     rw [HA1.out] at HE
     clear HR
     by_cases h2 : n4 = 2
     · have g2 : ((n4 : Int) == 2) = true := by simp [h2]
       have HE2 : Hid (r = (false && (ne && wm))) := Lib.hid (by rw [HE.out]; simp [h2])
       clear h2
       cases ne
       all_goals cases wm
       all_goals
        go_enter Tryz.func59, Tryz.ntmps59
        go_wp2_with fail
        go_ret
        exact ⟨ret_bool (by first | (rw [HE2.out]; done) | (rw [HE2.out]; rfl)), bg⟩
     · have g2 : ((n4 : Int) == 2) = false := by simp; omega
       by_cases h3 : n4 = 3
       · have g3 : ((n4 : Int) == 3) = true := by simp [h3]
         have HE2 : Hid (r = (false && (ne && wm))) := Lib.hid (by rw [HE.out]; simp [h3])
         clear h3 h2
         cases ne
         all_goals cases wm
         all_goals
          go_enter Tryz.func59, Tryz.ntmps59
          go_wp2_with fail
          go_ret
          exact ⟨ret_bool (by first | (rw [HE2.out]; done) | (rw [HE2.out]; rfl)), bg⟩
       · have g3 : ((n4 : Int) == 3) = false := by simp; omega
         have HE2 : Hid (r = false) := Lib.hid (by rw [HE.out]; simp [h2, h3])
         clear h3 h2
         cases ne
         all_goals cases wm
         all_goals
          go_enter Tryz.func59, Tryz.ntmps59
          go_wp2_with fail
          go_ret
          exact ⟨ret_bool (by first | (rw [HE2.out]; done) | (rw [HE2.out]; rfl)), bg⟩
   · have k6 : (xk == 6) = false := by simp [h6]
     have HR1 := Lib.hid (HR.out.trans (by rw [k6, cond_false]))
     clear HR h6
     by_cases h7 : xk = 7
     · subst h7
       have HE : Hid (r = (ae && (ne && (wm && decide (n4 = 2))))) := Lib.hid (HR1.out)
       rw [HA1.out] at HE
       by_cases hc : n4 = 2
       · have gc : ((n4 : Int) == 2) = true := by simp [hc]
         have HE2 : Hid (r = (false && (ne && wm))) := Lib.hid (by rw [HE.out]; simp [hc])
         clear hc HE
         cases ne
         all_goals cases wm
         all_goals
          go_enter Tryz.func59, Tryz.ntmps59
          go_wp2_with fail
          go_ret
          exact ⟨ret_bool (by first | (rw [HE2.out]; done) | (rw [HE2.out]; rfl)), bg⟩
       · have gc : ((n4 : Int) == 2) = false := by simp; omega
         have HE2 : Hid (r = false) := Lib.hid (by rw [HE.out]; simp [hc])
         clear hc HE
         cases ne
         all_goals cases wm
         all_goals
          go_enter Tryz.func59, Tryz.ntmps59
          go_wp2_with fail
          go_ret
          exact ⟨ret_bool (by first | (rw [HE2.out]; done) | (rw [HE2.out]; rfl)), bg⟩
     · have k7 : (xk == 7) = false := by simp [h7]
       by_cases h8 : xk = 8
       · subst h8
         have HE : Hid (r = (ae && (ne && (wm && decide (n4 = 2))))) := Lib.hid (HR1.out)
         rw [HA1.out] at HE
         by_cases hc : n4 = 2
         · have gc : ((n4 : Int) == 2) = true := by simp [hc]
           have HE2 : Hid (r = (false && (ne && wm))) := Lib.hid (by rw [HE.out]; simp [hc])
           clear hc HE
           cases ne
           all_goals cases wm
           all_goals
            go_enter Tryz.func59, Tryz.ntmps59
            go_wp2_with fail
            go_ret
            exact ⟨ret_bool (by first | (rw [HE2.out]; done) | (rw [HE2.out]; rfl)), bg⟩
         · have gc : ((n4 : Int) == 2) = false := by simp; omega
           have HE2 : Hid (r = false) := Lib.hid (by rw [HE.out]; simp [hc])
           clear hc HE
           cases ne
           all_goals cases wm
           all_goals
            go_enter Tryz.func59, Tryz.ntmps59
            go_wp2_with fail
            go_ret
            exact ⟨ret_bool (by first | (rw [HE2.out]; done) | (rw [HE2.out]; rfl)), bg⟩
       · have k8 : (xk == 8) = false := by simp [h8]
         have HR2 := Lib.hid (HR1.out.trans (by rw [k7, k8, Bool.or_false, cond_false]))
         clear HR1 h7 h8
         by_cases h12 : xk = 12
         · subst h12
           have HE : Hid (r = (ae && (ne && (wm && decide (n4 = 1))))) := Lib.hid (HR2.out)
           rw [HA1.out] at HE
           by_cases hc : n4 = 1
           · have gc : ((n4 : Int) == 1) = true := by simp [hc]
             have HE2 : Hid (r = (false && (ne && wm))) := Lib.hid (by rw [HE.out]; simp [hc])
             clear hc HE
             cases ne
             all_goals cases wm
             all_goals
              go_enter Tryz.func59, Tryz.ntmps59
              go_wp2_with fail
              go_ret
              exact ⟨ret_bool (by first | (rw [HE2.out]; done) | (rw [HE2.out]; rfl)), bg⟩
           · have gc : ((n4 : Int) == 1) = false := by simp; omega
             have HE2 : Hid (r = false) := Lib.hid (by rw [HE.out]; simp [hc])
             clear hc HE
             cases ne
             all_goals cases wm
             all_goals
              go_enter Tryz.func59, Tryz.ntmps59
              go_wp2_with fail
              go_ret
              exact ⟨ret_bool (by first | (rw [HE2.out]; done) | (rw [HE2.out]; rfl)), bg⟩
         · have k12 : (xk == 12) = false := by simp [h12]
           by_cases h13 : xk = 13
           · subst h13
             have HE : Hid (r = (ae && (ne && (wm && decide (n4 = 1))))) := Lib.hid (HR2.out)
             rw [HA1.out] at HE
             by_cases hc : n4 = 1
             · have gc : ((n4 : Int) == 1) = true := by simp [hc]
               have HE2 : Hid (r = (false && (ne && wm))) := Lib.hid (by rw [HE.out]; simp [hc])
               clear hc HE
               cases ne
               all_goals cases wm
               all_goals
                go_enter Tryz.func59, Tryz.ntmps59
                go_wp2_with fail
                go_ret
                exact ⟨ret_bool (by first | (rw [HE2.out]; done) | (rw [HE2.out]; rfl)), bg⟩
             · have gc : ((n4 : Int) == 1) = false := by simp; omega
               have HE2 : Hid (r = false) := Lib.hid (by rw [HE.out]; simp [hc])
               clear hc HE
               cases ne
               all_goals cases wm
               all_goals
                go_enter Tryz.func59, Tryz.ntmps59
                go_wp2_with fail
                go_ret
                exact ⟨ret_bool (by first | (rw [HE2.out]; done) | (rw [HE2.out]; rfl)), bg⟩
           · have k13 : (xk == 13) = false := by simp [h13]
             have HR3 := Lib.hid (HR2.out.trans (by rw [k12, k13, Bool.or_false, cond_false]))
             clear HR2 h12 h13
             by_cases h9 : xk = 9
             · subst h9
               have HE : Hid (r = (ae && (nm && (me && decide (n4 = 1))))) := Lib.hid HR3.out
               rw [HA1.out] at HE
               have f5 := E5.out
               clear HR3 f2 f3 E25 ENE
               have HE2 : Hid (r = false) := HE
               go_enter Tryz.func59, Tryz.ntmps59
               go_wp2_with fail
               go_ret
               exact ⟨ret_bool HE2.out.symm, bg⟩
             · have k9 : (xk == 9) = false := by simp [h9]
               have HR4 := Lib.hid (HR3.out.trans (by rw [k9, cond_false]))
               clear HR3 h9
               by_cases h11 : xk = 11
               · subst h11
                 have HE : Hid (r = (ae && (nm && (!rs && (!sm && (decide (n4 = 1) && (al && (decide (6 ≤ kind0 x) && kind0 x != 11)))))))) := Lib.hid HR4.out
                 rw [HA1.out] at HE
                 have f5 := E253.out
                 clear HR4 f2 f3 E25 ENE
                 have HE2 : Hid (r = false) := HE
                 go_enter Tryz.func59, Tryz.ntmps59
                 go_wp2_with fail
                 go_ret
                 exact ⟨ret_bool HE2.out.symm, bg⟩
               · have k11 : (xk == 11) = false := by simp [h11]
                 have HR5 := Lib.hid (HR4.out.trans (by rw [k11, cond_false]))
                 clear HR4 h11
                 by_cases h10 : xk = 10
                 · subst h10
                   have HE : Hid (r = (x.arms.all (armB wd ls) && (ae && (ne && (decide (n2 = 1) && decide (n4 = 0)))))) := Lib.hid HR5.out
                   rw [HA1.out] at HE
                   clear HR5 f3 E25
                   go_enter Tryz.func59, Tryz.ntmps59
                   go_wp2_with fail
                   go_loopw [10] (fun i W => ∃ k : Nat, k ≤ n5 ∧ i = .int .i64 k ∧ (x.arms.take k).all (armB wd ls) = true ∧ Bk w W 64 #[.int .i64 10, .string x.name, .slice a1 n1 c1, .slice a2 n2 c2, .slice a3 n3 c3, .slice a4 n4 c4, .slice a5 n5 c5]) (fun i _ => n5 - (intOf i).toNat)
                   case atStart => exact ⟨0, Nat.zero_le _, rfl, by simp, BK.out⟩
                   case round =>
                    obtain ⟨k, hk, rfl, hal, hbk⟩ := hrel
                    have HAA := Lib.hid hal
                    have BK1 := Lib.hid hbk
                    clear hal hbk
                    have K1BK1 := Lib.hid BK1.out.b
                    have hBBK1 := BK1.out.hb
                    obtain ⟨p0, p1, p2, p3, p4, p5, p6, pl⟩ := K1BK1.out.box7
                    by_cases hlt : k < n5
                    · obtain ⟨y, hy⟩ : ∃ y, x.arms[k]? = .some y := ⟨_, List.getElem?_eq_getElem (by rw [N5.out]; exact hlt)⟩
                      obtain ⟨b, o, c, hi, hbB, hce, ⟨wv, yv, rfl, hyw, hyb⟩, _⟩ := HAR.out.at 62 92 Tryz.underlying62 (by kernel_rfl) hy
                      have HY := Lib.hid hy
                      obtain ⟨a6, c6, rfl, _⟩ := hyb.shape
                      obtain ⟨a8, c8, rfl, hyz⟩ := hyw.len
                      obtain ⟨ny, hny⟩ : ∃ n, y.words.length = n := ⟨_, rfl⟩
                      have CLb := Lib.hid (HLSS.out.reads hyb true)
                      have HF : Hid (armB wd ls y = (!y.words.isEmpty && (ls y.body && y.words.all (someB wd)))) := Lib.hid rfl
                      rw [hny] at hce hyw hyz
                      have HYW := Lib.hid hyw
                      have NY := Lib.hid hny
                      have e0 := (hBBK1.cell hbB).trans (hce 0 _ rfl)
                      have e1 := (hBBK1.cell hbB).trans (hce 1 _ rfl)
                      have hbB' := Nat.lt_of_lt_of_le hbB hBBK1.size
                      rw [Nat.add_zero] at e0
                      obtain ⟨lr, hlr⟩ : ∃ b, (ls y.body && (true || !y.body.isEmpty)) = b := ⟨_, rfl⟩
                      rw [hlr] at CLb
                      rw [Bool.true_or, Bool.and_true] at hlr
                      rw [hlr] at HF
                      clear hy hce hyw hyb hny hlr
                      rcases Nat.eq_zero_or_pos ny with h0 | h0
                      · have HE2 : Hid (r = false) := Lib.hid (by rw [HE.out, all_no HY.out (show armB wd ls y = false by rw [HF.out, nil_of_len NY.out h0]; rfl)]; rfl)
                        subst h0
                        go_wp2_with fail
                        go_ret
                        exact ⟨ret_bool HE2.out.symm, bg⟩
                      · have gy : ((ny : Int) == 0) = false := by simp; omega
                        have HF2 : Hid (armB wd ls y = (lr && y.words.all (someB wd))) := Lib.hid (by rw [HF.out, not_nil_of_len NY.out h0]; rfl)
                        obtain ⟨g, hgd⟩ : ∃ g, g = wr.heap.size := ⟨_, rfl⟩
                        have hgB : w.heap.size ≤ g := by rw [hgd]; exact hBBK1.size
                        have hgl : w.heap.size < g := by rw [hgd]; exact BK1.out.b.lt
                        have HST : Hid (∀ (cs : Array Value), Blk (wr.alloc (.cells cs 92)) g 92 cs) := Lib.hid fun cs => Blk.at hgd
                        go_wp2_with fail
                        refine (CLb.out _ bg).mono ?_
                        rintro e w1 ⟨rfl, hb0⟩
                        have hB1 : Below w.heap.size w w1 := since hb0 bg
                        have BKw1 := Lib.hid (Bk.later BK1.out ((show Below wr.heap.size wr (wr.alloc _) from bg).trans (hb0.mono (by simp))))
                        have HAB := Lib.hid ((HST.out _).below hb0 (by rw [hgd]; simp))
                        clear hb0 HST
                        rw [← hgd]
                        clear p0 p1 p2 p3 p4 p5 p6 pl
                        clear e0 e1 hi hgd
                        cases lr with
                        | false =>
                          have HE2 : Hid (r = false) := Lib.hid (by rw [HE.out, all_no HY.out (show armB wd ls y = false by rw [HF2.out]; rfl)]; rfl)
                          go_wp2_with fail
                          go_ret
                          exact ⟨ret_bool HE2.out.symm, bg⟩
                        | true =>
                          have HF3 : Hid (armB wd ls y = y.words.all (someB wd)) := Lib.hid (by rw [HF2.out, Bool.true_and])
                          go_wp2_with fail
                          go_loopw [12] (fun i W => ∃ m : Nat, m ≤ ny ∧ i = .int .i64 m ∧ (y.words.take m).all (someB wd) = true ∧ Blk W g 92 #[.slice a8 ny c8, .slice a6 y.body.length c6] ∧ Bk w W 64 #[.int .i64 10, .string x.name, .slice a1 n1 c1, .slice a2 n2 c2, .slice a3 n3 c3, .slice a4 n4 c4, .slice a5 n5 c5]) (fun i _ => ny - (intOf i).toNat)
                          case atStart => exact ⟨0, Nat.zero_le _, rfl, by simp, HAB.out, BKw1.out⟩
                          case round =>
                           obtain ⟨m, hm, rfl, hal, hab, hbk⟩ := hrel
                           have HAW := Lib.hid hal
                           have HAB2 := Lib.hid hab
                           have BK2 := Lib.hid hbk
                           clear hal hab hbk
                           have hBB2 := BK2.out.hb
                           obtain ⟨q0, q1, ql⟩ := HAB2.out.box2
                           by_cases hlt2 : m < ny
                           · obtain ⟨u, hu⟩ : ∃ u, y.words[m]? = .some u := ⟨_, List.getElem?_eq_getElem (by rw [NY.out]; exact hlt2)⟩
                             obtain ⟨b3, o3, c3', hi3, hbB3, hce3, ⟨uv, rfl, hup⟩, _⟩ := HYW.out.at 59 41 Tryz.underlying59 (by kernel_rfl) hu
                             have HU := Lib.hid hu
                             obtain ⟨a9, c9, rfl, _⟩ := hup.shape
                             have CW := Lib.hid (HWD.out.reads hup true)
                             have e3 := (hBB2.cell hbB3).trans (hce3 0 _ rfl)
                             have hbB3' := Nat.lt_of_lt_of_le hbB3 hBB2.size
                             rw [Nat.add_zero] at e3
                             obtain ⟨rr, hrr⟩ : ∃ r, (wd u && (!true || !u.isEmpty)) = r := ⟨_, rfl⟩
                             rw [hrr] at CW
                             have HS : Hid (someB wd u = rr) := Lib.hid (by rw [← hrr, someB]; simp)
                             clear hu hce3 hup hrr
                             go_wp2_with fail
                             refine (CW.out _ bg).mono ?_
                             rintro e w5 ⟨rfl, hb0⟩
                             have BKw5 := Lib.hid (Bk.later BK2.out hb0)
                             have HAB5 := Lib.hid (HAB2.out.below hb0 HAB2.out.lt)
                             have hB5 : Below w.heap.size w w5 := BKw5.out.hb
                             clear hb0
                             cases rr with
                             | false =>
                               have HE2 : Hid (r = false) := Lib.hid (by rw [HE.out, all_no HY.out (HF3.out.trans (all_no HU.out HS.out))]; rfl)
                               go_wp2_with fail
                               go_ret
                               exact ⟨ret_bool HE2.out.symm, bg⟩
                             | true =>
                               go_wp2_with fail
                               go_roundw
                               case rel => exact ⟨m + 1, by omega, by go_num, all_to HAW.out HU.out HS.out, HAB5.out, BKw5.out⟩
                               case measure => simp [intOf]; omega
                           · have HYES : Hid (armB wd ls y = true) := Lib.hid (HF3.out.trans (all_end HAW.out (by rw [NY.out]; omega)))
                             go_wp2_with fail
                             go_roundw
                             case rel => exact ⟨k + 1, by omega, by go_num, all_to HAA.out HY.out HYES.out, BK2.out⟩
                             case measure => simp [intOf]; omega
                    · have HEX : Hid (r = (false && (ne && (decide (n2 = 1) && decide (n4 = 0))))) := Lib.hid (by rw [HE.out, all_end HAA.out (by rw [N5.out]; omega)]; rfl)
                      clear HAA
                      by_cases hc2 : n2 = 1
                      · have gc2 : ((n2 : Int) == 1) = true := by simp [hc2]
                        by_cases hc4 : n4 = 0
                        · have gc4 : ((n4 : Int) == 0) = true := by simp [hc4]
                          have HE2 : Hid (r = (false && ne)) := Lib.hid (by rw [HEX.out]; simp [hc2, hc4])
                          clear hc2 hc4
                          cases ne
                          all_goals
                           go_wp2_with fail
                           go_ret
                           exact ⟨ret_bool (by first | (rw [HE2.out]; done) | (rw [HE2.out]; rfl)), bg⟩
                        · have gc4 : ((n4 : Int) == 0) = false := by simp; omega
                          have HE2 : Hid (r = false) := Lib.hid (by rw [HEX.out]; simp [hc4])
                          clear hc2 hc4
                          cases ne
                          all_goals
                           go_wp2_with fail
                           go_ret
                           exact ⟨ret_bool HE2.out.symm, bg⟩
                      · have gc2 : ((n2 : Int) == 1) = false := by simp; omega
                        have HE2 : Hid (r = false) := Lib.hid (by rw [HEX.out]; simp [hc2])
                        clear hc2
                        cases ne
                        all_goals
                         go_wp2_with fail
                         go_ret
                         exact ⟨ret_bool HE2.out.symm, bg⟩
                 · have k10 : (xk == 10) = false := by simp [h10]
                   have HE2 : Hid (r = false) := Lib.hid (HR5.out.trans (by rw [k10, cond_false]))
                   clear HR5 h10
                   go_enter Tryz.func59, Tryz.ntmps59
                   go_wp2_with fail
                   go_ret
                   exact ⟨ret_bool HE2.out.symm, bg⟩
end Go.Proofs.YtnackmnoldkihaaGreatDoor
