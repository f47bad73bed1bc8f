/-
  Show of what is right.
-/
import Derived.Test.YtnackmnoldkihaaGreatDoorW20
set_option linter.unusedVariables false
set_option linter.unusedSimpArgs false
/-
  The walk of the writer's node.
-/
namespace Go.Proofs.YtnackmnoldkihaaGreatDoor
open Go.RowKit

set_option maxHeartbeats 4000000 in
set_option maxRecDepth 100000 in
theorem wnode_any {d : Nat} {wd : St → List Pt → St} {fw : List Pt → Bool} (hwd : WordW d wd fw) (hg : Grow2 wd) {wl : St → List Nd → St} {fl : List Nd → Bool} (hwl : ListW d wl fl) (hgl : Grow2 wl) {nd : St → Nd → St} {fn : Nd → Bool} (hnd : ∀ d', d = d' + 1 → NodeW d' nd fn) (hgn : Grow2 nd) : NodeW d (nodeS wd wl nd) (nodeF fw fl fn) := by
 intro W B b dv out ds x c hH h hc hf hlen
 rw [nodeF, Bool.and_eq_true, Bool.and_eq_true, Bool.and_eq_true, Bool.and_eq_true, Bool.and_eq_true, Bool.and_eq_true] at hf
 obtain ⟨hsh, hfas, hfw, hfr, hfl, hfn, hfa⟩ := hf
 have HC := Lib.hid hc
 obtain ⟨a1, c1, a2, c2, a3, c3, a4, c4, a5, c5, rfl, hxz, ⟨hn1, hn2, hn3, hn4, hn5⟩, _, _, hRd, hLs, _⟩ := hc.open
 obtain ⟨n1, hl1⟩ : ∃ n, x.assigns.length = n := ⟨_, rfl⟩
 obtain ⟨n2, hl2⟩ : ∃ n, x.words.length = n := ⟨_, rfl⟩
 obtain ⟨n3, hl3⟩ : ∃ n, x.redirs.length = n := ⟨_, rfl⟩
 obtain ⟨n4, hl4⟩ : ∃ n, x.lists.length = n := ⟨_, rfl⟩
 obtain ⟨n5, hl5⟩ : ∃ n, x.arms.length = n := ⟨_, rfl⟩
 rw [hl3] at hn3 hRd
 rw [hl4] at hn4 hLs
 rw [hl1, hl2, hl3, hl4, hl5] at HC ⊢
 have HL := Lib.hid hLs
 have HRS := Lib.hid hRd
 have HH := Lib.hid hH
 have HWD := Lib.hid hwd
 have HWL := Lib.hid hwl
 have HG := Lib.hid hg
 have HGL := Lib.hid hgl
 have HW := Lib.hid h
 have HFW := Lib.hid (List.all_eq_true.1 hfw)
 have HFW0 := Lib.hid hfw
 have HFL := Lib.hid (List.all_eq_true.1 hfl)
 have HFA := Lib.hid hfa
 have N4 := Lib.hid hl4
 obtain ⟨s0, hs0⟩ : ∃ s, stOf out ds = s := ⟨_, rfl⟩
 rw [hs0] at hlen ⊢
 have HS0 := Lib.hid hs0
 obtain ⟨r, hr⟩ : ∃ r, nodeS wd wl nd s0 x = r := ⟨_, rfl⟩
 rw [hr] at hlen ⊢
 have HLEN := Lib.hid hlen
 obtain ⟨xk, hxk⟩ : ∃ k, x.kind = k := ⟨_, rfl⟩
 rw [nodeS] at hr
 rw [hxk] at hr HC ⊢
 have HR := Lib.hid hr
 have HSF := Lib.hid hsh
 have HFN := Lib.hid hfn
 have HND := Lib.hid hnd
 have HGN := Lib.hid hgn
 have HFR := Lib.hid hfr
 have HFA0 := Lib.hid hfas
 have HFL0 := Lib.hid hfl
 have HXK := Lib.hid hxk
 have hle := h.le
 clear hl1 hl2 hl3 hl4 hl5 hRd hLs hH hwd hwl hg hgl h hfa hfw hfl hlen hc hs0 hr hxk hsh hfn hnd hgn hfr hfas
 obtain ⟨nc, hnc⟩ : ∃ cs : Array Value, cs = #[.int .i64 xk, .string x.name, .slice a1 n1 c1, .slice a2 n2 c2, .slice a3 n3 c3, .slice a4 n4 c4, .slice a5 n5 c5] := ⟨_, rfl⟩
 have HNC := Lib.hid hnc
 obtain ⟨U, hU⟩ : ∃ U, U = W.alloc (.cells nc 38) := ⟨_, rfl⟩
 have HB0 : Hid (Blk U W.heap.size 38 nc) := Lib.hid (by rw [hU]; exact Blk.at rfl)
 have HBL : Hid (Below W.heap.size W U) := Lib.hid (by rw [hU]; exact (Below.refl _ _).alloc (Nat.le_refl _) _)
 rw [hnc] at hU
 have HUE := Lib.hid hU
 clear hU hnc
 have HSU : Hid (Shown W B b dv s0 U) := Lib.hid (by have := (Shown.start HW.out).later HBL.out; rwa [HS0.out] at this)
 have CR : Hid (∀ (t : St) (X : World), Shown W B b dv t X → (redirsS wd t x.redirs true).1.length ≤ lim → Calls Tryz.prog 80 #[.pointer (some ⟨b, 0, none⟩), .slice a3 n3 c3, .bool true] X fun e w' => e = .returned (.tuple #[]) ∧ Shown W B b dv (redirsS wd t x.redirs true) w') := Lib.hid fun t X ht hlen => by
  obtain ⟨dv1, ds1, h1, h2, h3⟩ := shown_st ht
  have hlow1 := ht.low
  have h4 := wredirs_any HWD.out HG.out h1 (HH.out.below hlow1) (HRS.out.imp (fun xs hs => hs.below hlow1) fun _ _ _ h => h.keep fun _ _ _ _ hs => hs.below hlow1) HFR.out true (by rw [h2]; exact hlen)
  rw [h2] at h4
  exact h4.mono fun e w' ⟨g1, g2⟩ => ⟨g1, g2.after h3⟩
 have hlowU := HSU.out.low
 cases k1 : (xk == 1) with
 | true =>
   have HE : Hid (r = simpleS wd s0 x) := Lib.hid (by rw [← HR.out, k1]; rfl)
   have CA : Hid (Calls Tryz.prog 76 #[.pointer (some ⟨b, 0, none⟩), .agg #[.int .i64 xk, .string x.name, .slice a1 n1 c1, .slice a2 n2 c2, .slice a3 n3 c3, .slice a4 n4 c4, .slice a5 n5 c5]] U fun e w' => e = .returned (.tuple #[]) ∧ Shown W B b dv r w') := Lib.hid (by
    obtain ⟨dv1, ds1, g1, g2, g3⟩ := shown_st HSU.out
    have g4 := wsimple_any HWD.out HG.out x _ g1 (HH.out.below hlowU) (HC.out.later2 hlowU) HFA0.out HFW0.out HFR.out (by rw [g2, ← HE.out]; exact HLEN.out)
    rw [g2, ← HE.out] at g4
    exact g4.mono fun e w' ⟨q1, q2⟩ => ⟨q1, q2.after g3⟩)
   go_enter Tryz.func61, Tryz.ntmps61
   go_wp2_with fail
   rw [← HUE.out]
   refine CA.out.mono ?_
   rintro e w9 ⟨rfl, hs9⟩
   have HS9 := Lib.hid hs9
   clear hs9
   go_wp2_with fail
   refine bodyPost_ret (results_none rfl _ _ _) rfl ?_
   exact ⟨rfl, HS9.out⟩
 | false =>
 have HE : Hid (r = redirsS wd (bodyS wd wl nd s0 x) x.redirs true) := Lib.hid (by rw [← HR.out, k1]; rfl)
 have HZ : Hid ((redirsS wd (bodyS wd wl nd s0 x) x.redirs true).1.length ≤ lim) := Lib.hid (by rw [← HE.out]; exact HLEN.out)
 have HZB : Hid ((bodyS wd wl nd s0 x).1.length ≤ lim) := Lib.hid (Nat.le_trans (redirsS_grow HG.out _ _ _) HZ.out)
 have hbx := HXK.out
 rw [bodyS, hbx] at HE HZ HZB
 clear hbx
 cases k2 : (xk == 2) with
 | true =>
   have h2 : x.lists.all (fun l => !l.isEmpty) = true := by have := HSF.out; rw [shapeF, HXK.out, k1, k2] at this; exact this
   have CJ := Lib.hid (HSU.out.twice (Below.refl _ _) fun dv1 h1 => wjoin_any HND.out HGN.out h1 (Below.refl _ _) (HH.out.below hlowU) ⟨#[32, 124, 32]⟩ x.lists _ (LssIn.keep (N4.out ▸ HL.out) fun _ _ _ _ hs => hs.below hlowU) HFN.out h2 (by have := HZB.out; rw [k2] at this; exact this))
   rw [N4.out] at CJ
   rw [k2] at HE HZ
   clear h2
   go_enter Tryz.func61, Tryz.ntmps61
   go_wp2_with fail
   rw [← HUE.out]
   refine CJ.out.mono ?_
   rintro e w7 ⟨rfl, hs7, hk7⟩
   have HB7 := Lib.hid (hk7 _ _ _ HB0.out (by decide) (by decide) (by decide))
   have HBN := Lib.hid (HNC.out ▸ HB7.out)
   have CQ := Lib.hid (CR.out _ _ hs7 HZ.out)
   clear hs7 hk7 CJ
   obtain ⟨p0, p1, p2, p3, p4, p5, p6, pl⟩ := HBN.out.box7
   go_wp2_with fail
   refine CQ.out.mono ?_
   rintro e w9 ⟨rfl, hs9⟩
   have HS9 := Lib.hid hs9
   clear hs9
   go_wp2_with fail
   go_end0
   exact ⟨rfl, by rw [HE.out]; exact HS9.out⟩
 | false =>
 cases k3 : (xk == 3) with
 | true =>
   have h2 : x.lists.all (fun l => !l.isEmpty) = true := by have := HSF.out; rw [shapeF, HXK.out, k1, k2, k3] at this; exact this
   have CJ := Lib.hid (HSU.out.twice (Below.refl _ _) fun dv1 h1 => wjoin_any HND.out HGN.out h1 (Below.refl _ _) (HH.out.below hlowU) ⟨#[32, 38, 38, 32]⟩ x.lists _ (LssIn.keep (N4.out ▸ HL.out) fun _ _ _ _ hs => hs.below hlowU) HFN.out h2 (by have := HZB.out; rw [k2, k3] at this; exact this))
   rw [N4.out] at CJ
   rw [k2, k3] at HE HZ
   clear h2
   go_enter Tryz.func61, Tryz.ntmps61
   go_wp2_with fail
   rw [← HUE.out]
   refine CJ.out.mono ?_
   rintro e w7 ⟨rfl, hs7, hk7⟩
   have HB7 := Lib.hid (hk7 _ _ _ HB0.out (by decide) (by decide) (by decide))
   have HBN := Lib.hid (HNC.out ▸ HB7.out)
   have CQ := Lib.hid (CR.out _ _ hs7 HZ.out)
   clear hs7 hk7 CJ
   obtain ⟨p0, p1, p2, p3, p4, p5, p6, pl⟩ := HBN.out.box7
   go_wp2_with fail
   refine CQ.out.mono ?_
   rintro e w9 ⟨rfl, hs9⟩
   have HS9 := Lib.hid hs9
   clear hs9
   go_wp2_with fail
   go_end0
   exact ⟨rfl, by rw [HE.out]; exact HS9.out⟩
 | false =>
 cases k4 : (xk == 4) with
 | true =>
   have h2 : x.lists.all (fun l => !l.isEmpty) = true := by have := HSF.out; rw [shapeF, HXK.out, k1, k2, k3, k4] at this; exact this
   have CJ := Lib.hid (HSU.out.twice (Below.refl _ _) fun dv1 h1 => wjoin_any HND.out HGN.out h1 (Below.refl _ _) (HH.out.below hlowU) ⟨#[32, 124, 124, 32]⟩ x.lists _ (LssIn.keep (N4.out ▸ HL.out) fun _ _ _ _ hs => hs.below hlowU) HFN.out h2 (by have := HZB.out; rw [k2, k3, k4] at this; exact this))
   rw [N4.out] at CJ
   rw [k2, k3, k4] at HE HZ
   clear h2
   go_enter Tryz.func61, Tryz.ntmps61
   go_wp2_with fail
   rw [← HUE.out]
   refine CJ.out.mono ?_
   rintro e w7 ⟨rfl, hs7, hk7⟩
   have HB7 := Lib.hid (hk7 _ _ _ HB0.out (by decide) (by decide) (by decide))
   have HBN := Lib.hid (HNC.out ▸ HB7.out)
   have CQ := Lib.hid (CR.out _ _ hs7 HZ.out)
   clear hs7 hk7 CJ
   obtain ⟨p0, p1, p2, p3, p4, p5, p6, pl⟩ := HBN.out.box7
   go_wp2_with fail
   refine CQ.out.mono ?_
   rintro e w9 ⟨rfl, hs9⟩
   have HS9 := Lib.hid hs9
   clear hs9
   go_wp2_with fail
   go_end0
   exact ⟨rfl, by rw [HE.out]; exact HS9.out⟩
 | false =>
 cases k5 : (xk == 5) with
 | true =>
   have hl0 : ∃ y, listAt x 0 = y ∧ y ∈ x.lists ∧ 0 < y.length ∧ 0 < x.lists.length := by
    have h3 := HSF.out
    rw [shapeF, HXK.out, show (xk == 1) = false from k1, k2, k3, k4, k5] at h3
    rw [listAt]
    cases hq : x.lists with
    | nil => rw [hq] at h3; simp at h3
    | cons y l =>
      rw [hq] at h3
      refine ⟨y, rfl, by simp, ?_, by simp⟩
      cases y with
      | nil => simp at h3
      | cons => simp
   obtain ⟨yq, hyq, _, hyl, hn40⟩ := hl0
   obtain ⟨y0, bk0, ok0, ak0, ck0, hy0, hm0, hi0, hb0, hc0, hl0⟩ := LssIn.nth (N4.out ▸ HL.out) 0 0 rfl hn40
   obtain rfl : yq = y0 := hyq.symm.trans hy0
   obtain ⟨xx, rr, d', bk2, ok2, c2', hyx, hdd, hi2, hb2, hce2, hC⟩ := hl0.head hyl
   rw [N4.out] at hi0
   have HND2 := Lib.hid (HND.out d' hdd)
   have HFX : Hid (fn xx = true) := Lib.hid (by
    have h1 := List.all_eq_true.1 HFN.out yq hm0
    rw [hyx] at h1
    exact List.all_eq_true.1 h1 xx (by simp))
   have HONE : Hid (∀ t : St, oneS nd t (listAt x 0) = nd t xx) := Lib.hid fun t => by rw [hyq, hyx]; rfl
   have HCX := Lib.hid hC
   obtain ⟨u1, v1, u2, v2, u3, v3, u4, v4, u5, v5, rfl, _⟩ := hC.open
   obtain ⟨ny, hny⟩ : ∃ n, yq.length = n := ⟨_, rfl⟩
   rw [hny] at hc0 hi2
   have HCE : Hid (∀ V, Below B W V → V.cell? ⟨bk0, ok0, none⟩ = some (.slice ak0 ny ck0) ∧ V.cell? ⟨bk2, ok2, none⟩ = some (.int .i64 xx.kind) ∧ V.cell? ⟨bk2, ok2 + 1, none⟩ = some (.string xx.name) ∧ V.cell? ⟨bk2, ok2 + 2, none⟩ = some (.slice u1 xx.assigns.length v1) ∧ V.cell? ⟨bk2, ok2 + 3, none⟩ = some (.slice u2 xx.words.length v2) ∧ V.cell? ⟨bk2, ok2 + 4, none⟩ = some (.slice u3 xx.redirs.length v3) ∧ V.cell? ⟨bk2, ok2 + 5, none⟩ = some (.slice u4 xx.lists.length v4) ∧ V.cell? ⟨bk2, ok2 + 6, none⟩ = some (.slice u5 xx.arms.length v5)) := Lib.hid fun V hV =>
    ⟨(hV.cell hb0).trans hc0, (hV.cell hb2).trans (hce2 0 _ rfl), (hV.cell hb2).trans (hce2 1 _ rfl), (hV.cell hb2).trans (hce2 2 _ rfl), (hV.cell hb2).trans (hce2 3 _ rfl), (hV.cell hb2).trans (hce2 4 _ rfl), (hV.cell hb2).trans (hce2 5 _ rfl), (hV.cell hb2).trans (hce2 6 _ rfl)⟩
   have hty : 0 < ny := by rw [← hny]; exact hyl
   clear hyq hyl hn40 hy0 hm0 hc0 hyx hdd hce2 hC hny
   rw [k2, k3, k4, k5] at HE HZ HZB
   rw [show (bif false then joinS nd [32, 124, 32] s0 x.lists false else bif false then joinS nd [32, 38, 38, 32] s0 x.lists false else bif false then joinS nd [32, 124, 124, 32] s0 x.lists false else bif true then oneS nd (putS s0 [33, 32]) (listAt x 0) else bif xk == 11 then oneS nd (putS s0 (L x.name ++ [40, 41, 32])) (listAt x 0) else compS wd wl s0 x) = nd (putS s0 [33, 32]) xx from HONE.out _] at HE HZ HZB
   have C1 := Lib.hid (HSU.out.str2 (Below.refl _ _) ⟨#[33, 32]⟩ (by have := Nat.le_trans (HGN.out (putS s0 [33, 32]) xx) HZB.out; simpa [putS] using this))
   go_enter Tryz.func61, Tryz.ntmps61
   go_wp2_with fail
   rw [← HUE.out]
   refine C1.out.mono ?_
   rintro e w1 ⟨rfl, hs1, hk1⟩
   have HBw1 := Lib.hid (hk1 _ _ _ HB0.out (by decide) (by decide) (by decide))
   have HSw1 := Lib.hid hs1
   clear hs1 hk1 C1
   obtain ⟨e0, g0, g1, g2, g3, g4, g5, g6⟩ := HCE.out _ HSw1.out.low
   have CN := Lib.hid (HSw1.out.twice (Below.refl _ _) fun dv1 h1 => h1.node HND2.out (Below.refl _ _) (HH.out.below HSw1.out.low) (HCX.out.later2 HSw1.out.low) HFX.out HZB.out)
   have HBN := Lib.hid (HNC.out ▸ HBw1.out)
   obtain ⟨p0, p1, p2, p3, p4, p5, p6, pl⟩ := HBN.out.box7
   go_wp2_with fail
   clear p0 p1 p2 p3 p4 p5 p6 pl HBN e0 g0 g1 g2 g3 g4 g5 g6
   refine CN.out.mono ?_
   rintro e w7 ⟨rfl, hs7, hk7⟩
   have HB7 := Lib.hid (hk7 _ _ _ HBw1.out (by decide) (by decide) (by decide))
   have HBN := Lib.hid (HNC.out ▸ HB7.out)
   have CQ := Lib.hid (CR.out _ _ hs7 HZ.out)
   clear hs7 hk7 CN
   obtain ⟨p0, p1, p2, p3, p4, p5, p6, pl⟩ := HBN.out.box7
   go_wp2_with fail
   refine CQ.out.mono ?_
   rintro e w9 ⟨rfl, hs9⟩
   have HS9 := Lib.hid hs9
   clear hs9
   go_wp2_with fail
   go_end0
   exact ⟨rfl, by rw [HE.out]; exact HS9.out⟩
 | false =>
 cases k11 : (xk == 11) with
 | true =>
   have hl0 : ∃ y, listAt x 0 = y ∧ y ∈ x.lists ∧ 0 < y.length ∧ 0 < x.lists.length := by
    have h3 := HSF.out
    rw [shapeF, HXK.out, show (xk == 1) = false from k1, k2, k3, k4, k5, k11] at h3
    rw [listAt]
    cases hq : x.lists with
    | nil => rw [hq] at h3; simp at h3
    | cons y l =>
      rw [hq] at h3
      refine ⟨y, rfl, by simp, ?_, by simp⟩
      cases y with
      | nil => simp at h3
      | cons => simp
   obtain ⟨yq, hyq, _, hyl, hn40⟩ := hl0
   obtain ⟨y0, bk0, ok0, ak0, ck0, hy0, hm0, hi0, hb0, hc0, hl0⟩ := LssIn.nth (N4.out ▸ HL.out) 0 0 rfl hn40
   obtain rfl : yq = y0 := hyq.symm.trans hy0
   obtain ⟨xx, rr, d', bk2, ok2, c2', hyx, hdd, hi2, hb2, hce2, hC⟩ := hl0.head hyl
   rw [N4.out] at hi0
   have HND2 := Lib.hid (HND.out d' hdd)
   have HFX : Hid (fn xx = true) := Lib.hid (by
    have h1 := List.all_eq_true.1 HFN.out yq hm0
    rw [hyx] at h1
    exact List.all_eq_true.1 h1 xx (by simp))
   have HONE : Hid (∀ t : St, oneS nd t (listAt x 0) = nd t xx) := Lib.hid fun t => by rw [hyq, hyx]; rfl
   have HCX := Lib.hid hC
   obtain ⟨u1, v1, u2, v2, u3, v3, u4, v4, u5, v5, rfl, _⟩ := hC.open
   obtain ⟨ny, hny⟩ : ∃ n, yq.length = n := ⟨_, rfl⟩
   rw [hny] at hc0 hi2
   have HCE : Hid (∀ V, Below B W V → V.cell? ⟨bk0, ok0, none⟩ = some (.slice ak0 ny ck0) ∧ V.cell? ⟨bk2, ok2, none⟩ = some (.int .i64 xx.kind) ∧ V.cell? ⟨bk2, ok2 + 1, none⟩ = some (.string xx.name) ∧ V.cell? ⟨bk2, ok2 + 2, none⟩ = some (.slice u1 xx.assigns.length v1) ∧ V.cell? ⟨bk2, ok2 + 3, none⟩ = some (.slice u2 xx.words.length v2) ∧ V.cell? ⟨bk2, ok2 + 4, none⟩ = some (.slice u3 xx.redirs.length v3) ∧ V.cell? ⟨bk2, ok2 + 5, none⟩ = some (.slice u4 xx.lists.length v4) ∧ V.cell? ⟨bk2, ok2 + 6, none⟩ = some (.slice u5 xx.arms.length v5)) := Lib.hid fun V hV =>
    ⟨(hV.cell hb0).trans hc0, (hV.cell hb2).trans (hce2 0 _ rfl), (hV.cell hb2).trans (hce2 1 _ rfl), (hV.cell hb2).trans (hce2 2 _ rfl), (hV.cell hb2).trans (hce2 3 _ rfl), (hV.cell hb2).trans (hce2 4 _ rfl), (hV.cell hb2).trans (hce2 5 _ rfl), (hV.cell hb2).trans (hce2 6 _ rfl)⟩
   have hty : 0 < ny := by rw [← hny]; exact hyl
   clear hyq hyl hn40 hy0 hm0 hc0 hyx hdd hce2 hC hny
   rw [k2, k3, k4, k5, k11] at HE HZ HZB
   rw [show (bif false then joinS nd [32, 124, 32] s0 x.lists false else bif false then joinS nd [32, 38, 38, 32] s0 x.lists false else bif false then joinS nd [32, 124, 124, 32] s0 x.lists false else bif false then oneS nd (putS s0 [33, 32]) (listAt x 0) else bif true then oneS nd (putS s0 (L x.name ++ [40, 41, 32])) (listAt x 0) else compS wd wl s0 x) = nd (putS s0 (L x.name ++ [40, 41, 32])) xx from HONE.out _] at HE HZ HZB
   have ka : ∀ V : World, (Op.stringOp .add x.name (⟨#[40, 41, 32]⟩ : ByteArray)).run Tryz.prog V = .ok (.string (x.name ++ (⟨#[40, 41, 32]⟩ : ByteArray))) V := fun V => run_string_add_sum V _ _ (by simp; omega)
   have HN0 := Lib.hid (HNC.out ▸ HB0.out)
   have CS : Hid (∀ X2, Below U.heap.size U X2 → Calls Tryz.prog 78 #[.pointer (some ⟨b, 0, none⟩), .string (x.name ++ (⟨#[40, 41, 32]⟩ : ByteArray))] X2 fun e w' => e = .returned (.tuple #[.int .i64 ((x.name ++ (⟨#[40, 41, 32]⟩ : ByteArray)).size : Nat), .nilIface]) ∧ Shown W B b dv (putS s0 (L x.name ++ [40, 41, 32])) w' ∧ Keeps X2 w') := Lib.hid fun X2 hX2 => by
    have h1 := HSU.out.str2 hX2 (x.name ++ (⟨#[40, 41, 32]⟩ : ByteArray)) (by
     have h2 := Nat.le_trans (HGN.out (putS s0 (L x.name ++ [40, 41, 32])) xx) HZB.out
     simp [putS, L_size] at h2 ⊢
     omega)
    have e : L (x.name ++ (⟨#[40, 41, 32]⟩ : ByteArray)) = L x.name ++ [40, 41, 32] := by simp [L_append]
    rw [e] at h1
    exact h1
   go_enter Tryz.func61, Tryz.ntmps61
   go_wp2_with fail
   rw [← HUE.out]
   obtain ⟨p0, p1, p2, p3, p4, p5, p6, pl⟩ := HN0.out.box7
   go_still_tail 6, (by kernel_rfl)
   go_wp2_with fail
   refine (CS.out _ bg).mono ?_
   rintro e w1 ⟨rfl, hs1, hk1⟩
   have HBw1 := Lib.hid ((Keeps.trans (Keeps.of_below bg) hk1) _ _ _ HB0.out (by decide) (by decide) (by decide))
   have HSw1 := Lib.hid hs1
   clear hs1 hk1 p0 p1 p2 p3 p4 p5 p6 pl HN0 CS
   obtain ⟨e0, g0, g1, g2, g3, g4, g5, g6⟩ := HCE.out _ HSw1.out.low
   have CN := Lib.hid (HSw1.out.twice (Below.refl _ _) fun dv1 h1 => h1.node HND2.out (Below.refl _ _) (HH.out.below HSw1.out.low) (HCX.out.later2 HSw1.out.low) HFX.out HZB.out)
   have HBN := Lib.hid (HNC.out ▸ HBw1.out)
   obtain ⟨p0, p1, p2, p3, p4, p5, p6, pl⟩ := HBN.out.box7
   go_wp2_with fail
   clear p0 p1 p2 p3 p4 p5 p6 pl HBN e0 g0 g1 g2 g3 g4 g5 g6
   refine CN.out.mono ?_
   rintro e w7 ⟨rfl, hs7, hk7⟩
   have HB7 := Lib.hid (hk7 _ _ _ HBw1.out (by decide) (by decide) (by decide))
   have HBN := Lib.hid (HNC.out ▸ HB7.out)
   have CQ := Lib.hid (CR.out _ _ hs7 HZ.out)
   clear hs7 hk7 CN
   obtain ⟨p0, p1, p2, p3, p4, p5, p6, pl⟩ := HBN.out.box7
   go_wp2_with fail
   refine CQ.out.mono ?_
   rintro e w9 ⟨rfl, hs9⟩
   have HS9 := Lib.hid hs9
   clear hs9
   go_wp2_with fail
   go_end0
   exact ⟨rfl, by rw [HE.out]; exact HS9.out⟩
 | false =>
   rw [k2, k3, k4, k5, k11] at HE HZ HZB
   have CC := Lib.hid (HSU.out.twice (Below.refl _ _) fun dv1 h1 => by
    obtain ⟨dv2, ds2, g1, g2, g3⟩ := shown_st h1
    have g4 := wcompound_any HWD.out HG.out HWL.out HGL.out x _ g1 (HH.out.below hlowU) (HC.out.later2 hlowU) HSF.out (by rw [HXK.out, k1, k2, k3, k4]; rfl) (by rw [HXK.out, k5, k11]; rfl) HFW0.out HFL0.out HFA.out (by rw [g2]; exact HZB.out)
    rw [g2] at g4
    exact g4.mono fun e w' ⟨q1, q2⟩ => ⟨q1, q2.after g3⟩)
   go_enter Tryz.func61, Tryz.ntmps61
   go_wp2_with fail
   rw [← HUE.out]
   refine CC.out.mono ?_
   rintro e w7 ⟨rfl, hs7, hk7⟩
   have HB7 := Lib.hid (hk7 _ _ _ HB0.out (by decide) (by decide) (by decide))
   have HBN := Lib.hid (HNC.out ▸ HB7.out)
   have CQ := Lib.hid (CR.out _ _ hs7 HZ.out)
   clear hs7 hk7 CC
   obtain ⟨p0, p1, p2, p3, p4, p5, p6, pl⟩ := HBN.out.box7
   go_wp2_with fail
   refine CQ.out.mono ?_
   rintro e w9 ⟨rfl, hs9⟩
   have HS9 := Lib.hid hs9
   clear hs9
   go_wp2_with fail
   go_end0
   exact ⟨rfl, by rw [HE.out]; exact HS9.out⟩
end Go.Proofs.YtnackmnoldkihaaGreatDoor
/-
  The writer at every depth.
-/
namespace Go.Proofs.YtnackmnoldkihaaGreatDoor
open Go.RowKit

theorem word_zero : WordW 0 (fun s _ => s) (fun _ => true) := by
 intro W B b dv out ds l v hH h hl _ hlen
 rw [PtsIn] at hl
 obtain rfl := hl.zero
 have h1 : PtsIn W B (0 + 1) [] v := by
  rw [PtsIn.succ]
  exact hl.imp (fun _ hs => hs) fun _ _ _ h => h.elim
 exact wword_any 0 (fun s _ => s) (fun _ => false) (fun _ _ => Nat.le_refl _) (fun _ _ _ _ _ _ _ _ _ _ _ hf => Bool.noConfusion hf) W B b dv out ds [] v hH h h1 rfl hlen
theorem list_zero : ListW 0 (fun s _ => s) (fun _ => true) := by
 intro W B b dv out ds l v hH h hl _ hlen
 rw [NdsIn] at hl
 obtain rfl := hl.zero
 have h1 : NdsIn W B (0 + 1) [] v := by
  rw [NdsIn.succ]
  exact hl.imp (fun _ hs => hs) fun _ _ _ h => h.elim
 exact wlist_any 0 (fun s _ => s) (fun _ => false) (fun _ _ => Nat.le_refl _) (fun _ _ _ _ _ _ _ _ _ _ _ hf => Bool.noConfusion hf) W B b dv out ds [] v hH h h1 rfl hlen

/-- word, list, node. -/
theorem levW : ∀ d, WordW d (levS d).1 (levF d).1 ∧ ListW d (levS d).2.1 (levF d).2.1 ∧ NodeW d (levS d).2.2 (levF d).2.2
 | 0 => ⟨word_zero, list_zero, wnode_any word_zero (fun _ _ => Nat.le_refl _) list_zero (fun _ _ => Nat.le_refl _) (fun d' h => by omega) (fun _ _ => Nat.le_refl _)⟩
 | d + 1 => by
   obtain ⟨h1, h2, h3⟩ := levW d
   obtain ⟨g1, g2, g3⟩ := levS_grow d
   obtain ⟨k1, k2, k3⟩ := levS_grow (d + 1)
   have hp := wpart_any d _ _ _ _ g1 g2 h1 h2
   have hw : WordW (d + 1) (levS (d + 1)).1 (levF (d + 1)).1 := wword_any d _ _ (partS_grow g1 g2) hp
   have hl : ListW (d + 1) (levS (d + 1)).2.1 (levF (d + 1)).2.1 := wlist_any d _ _ g3 h3
   exact ⟨hw, hl, wnode_any hw k1 hl k2 (fun d' h => by have e : d' = d := Nat.succ.inj h.symm; rw [e]; exact h3) g3⟩
end Go.Proofs.YtnackmnoldkihaaGreatDoor
/-
  The walk of Show.
-/
namespace Go.Proofs.YtnackmnoldkihaaGreatDoor
open Go.RowKit

set_option maxHeartbeats 1000000 in
set_option maxRecDepth 100000 in
theorem show_any (d : Nat) (l : List Nd) (v : Value) (w : World) (hH : Hd w w.heap.size) (hl : NdsIn w w.heap.size d l v) (hf : (levF d).2.1 l = true) (hne : showL d l ≠ []) (hlen : (showL d l).length ≤ lim) :
 Calls Tryz.prog 33 #[v] w fun e w' => e = .returned (.string (S (showL d l))) ∧ Below w.heap.size w w' := by
 obtain ⟨a, cap, rfl, _⟩ := hl.shape
 obtain ⟨W, hW⟩ : ∃ W, W = w.alloc (.cells #[.pointer none, .slice none 0 0, .slice none 0 0] 84) := ⟨_, rfl⟩
 have hbl : Below w.heap.size w W := by rw [hW]; exact (Below.refl _ _).alloc (Nat.le_refl _) _
 have hwr : Wr W w.heap.size w.heap.size (.slice none 0 0) [] [] := ⟨Nat.le_refl _, ⟨.slice none 0 0, .pointer none, by rw [hW]; exact Blk.new _ _ _, .inl rfl, OwnB.nil _ _⟩, World.ownsRow_nil _ _ _ _, fun r hr => by simp at hr, Nat.le_refl _⟩
 have CL := Lib.hid ((levW d).2.1 W w.heap.size w.heap.size _ [] [] l _ (hH.below hbl) hwr (hl.below hbl) hf hlen)
 have HNE := Lib.hid hne
 have HBL := Lib.hid hbl
 have HW := Lib.hid hW
 clear hH hl hf hne hlen hW hbl hwr
 go_enter Tryz.func33, Tryz.ntmps33
 go_wp2_with fail
 rw [← HW.out]
 refine CL.out.mono ?_
 rintro e w1 ⟨rfl, hs⟩
 have hlow := hs.low
 obtain ⟨dv, ds, h1, h2, h3⟩ := shown_st hs
 have CS := Lib.hid (string_any h1 HNE.out)
 have HB1 := Lib.hid (HBL.out.trans hlow)
 clear hs h1 h2 h3 hlow
 go_wp2_with fail
 refine CS.out.mono ?_
 rintro e w2 ⟨rfl, hb⟩
 have HB2 := Lib.hid (HB1.out.trans hb)
 clear hb
 go_wp2_with fail
 go_ret
 exact ⟨rfl, HB2.out⟩
end Go.Proofs.YtnackmnoldkihaaGreatDoor
/-
  What is right can be shown.
-/
namespace Go.Proofs.YtnackmnoldkihaaGreatDoor
open Go.RowKit

theorem all_of {α : Type} {f g : α → Bool} {l : List α} (h : l.all f = true) (hf : ∀ x, f x = true → g x = true) : l.all g = true :=
 List.all_eq_true.2 fun x hx => hf x (List.all_eq_true.1 h x hx)
section
variable {wd : List Pt → Bool} {ls : List Nd → Bool} {fw : List Pt → Bool} {fl : List Nd → Bool} {fn : Nd → Bool} (hw : ∀ y, wd y = true → fw y = true) (hl : ∀ y, ls y = true → fl y = true) (hn : ∀ y, ls y = true → y.all fn = true)
include hw
theorem redirF_ok {r : Rd} (h : redirB wd r = true) : redirF fw r = true := by
 rw [redirB, Bool.and_eq_true] at h
 rw [redirF, Bool.and_eq_true]
 refine ⟨h.1, ?_⟩
 have h2 := h.2
 cases hop : (L r.op == [60, 60]) with
 | true =>
   rw [hop, cond_true, docB] at h2
   simp only [Bool.and_eq_true] at h2
   exact hw _ h2.2.1
 | false =>
   rw [hop, cond_false] at h2
   simp only [Bool.and_eq_true] at h2
   exact hw _ h2.2.2.1
include hl hn
theorem nodeF_of {x : Nd} (hsh : shapeF x = true) (ha : x.assigns.all (fun a => wd a.word) = true) (hws : x.words.all (someB wd) = true) (hr : x.redirs.all (redirB wd) = true) (hls : x.lists.all (somesB ls) = true) (hm : x.arms.all (armB wd ls) = true) : nodeF fw fl fn x = true := by
 simp only [nodeF, Bool.and_eq_true]
 refine ⟨hsh, all_of ha fun a h => hw _ h, all_of hws fun y h => ?_, all_of hr fun r h => redirF_ok hw h, all_of hls fun y h => ?_, all_of hls fun y h => ?_, all_of hm fun a h => ?_⟩
 · rw [someB, Bool.and_eq_true] at h; exact hw _ h.1
 · rw [somesB, Bool.and_eq_true] at h; exact hl _ h.1
 · rw [somesB, Bool.and_eq_true] at h; exact hn _ h.1
 · simp only [armB, Bool.and_eq_true] at h
   rw [Bool.and_eq_true]
   exact ⟨all_of h.2.2 fun y h => by rw [someB, Bool.and_eq_true] at h; exact hw _ h.1, hl _ h.2.1⟩
omit hw hl hn
theorem all_empty {α : Type} {l : List α} {f : α → Bool} (h : l.isEmpty = true) : l.all f = true := by cases l with | nil => rfl | cons => simp at h
theorem lists_full {x : Nd} (h : x.lists.all (somesB ls) = true) : x.lists.all (fun l => !l.isEmpty) = true := all_of h fun y h => by rw [somesB, Bool.and_eq_true] at h; exact h.2
theorem sole_head {may : Nat → Int → Bool} {i : Nat} {l : List (List Nd)} (h : soleB may i l = true) (h1 : 1 ≤ l.length) : ∃ y r, l = y :: r ∧ (!y.isEmpty) = true := by
 cases l with
 | nil => simp at h1
 | cons y r =>
   refine ⟨y, r, rfl, ?_⟩
   cases y with
   | nil => simp [soleB] at h
   | cons => rfl
include hw hl hn
theorem nodeF_ok {x : Nd} (h : nodeB wd ls x = true) : nodeF fw fl fn x = true := by
 rw [nodeB, Bool.and_eq_true, Bool.and_eq_true] at h
 obtain ⟨hws, hr, h⟩ := h
 cases k1 : (x.kind == 1) with
 | true =>
   rw [k1, cond_true] at h
   simp only [simpleB, Bool.and_eq_true] at h
   obtain ⟨ha, _, _, ⟨hle, hae⟩, _⟩ := h
   exact nodeF_of hw hl hn (by rw [shapeF, k1]; rfl) (all_of ha fun a h => by rw [Bool.and_eq_true] at h; exact h.2) hws hr (all_empty hle) (all_empty hae)
 | false =>
 rw [k1, cond_false] at h
 cases kj : ((x.kind == 2 || x.kind == 3) || (x.kind == 4 || x.kind == 5)) with
 | true =>
   rw [kj, cond_true] at h
   simp only [joinedB, bareN, Bool.and_eq_true] at h
   obtain ⟨⟨⟨_, ha, _, hm⟩, _⟩, h⟩ := h
   cases k2 : (x.kind == 2) with
   | true =>
     rw [k2, cond_true] at h
     simp only [aloneB, Bool.and_eq_true] at h
     exact nodeF_of hw hl hn (by rw [shapeF, k1, k2]; exact lists_full h.2.1) (all_empty ha) hws hr h.2.1 (all_empty hm)
   | false =>
   rw [k2, cond_false] at h
   cases k5 : (x.kind == 5) with
   | true =>
     rw [k5, cond_true] at h
     simp only [aloneB, Bool.and_eq_true] at h
     have k3 : (x.kind == 3) = false := by rw [eq_of_beq k5]; rfl
     have k4 : (x.kind == 4) = false := by rw [eq_of_beq k5]; rfl
     exact nodeF_of hw hl hn (by obtain ⟨y, r, hq, hy⟩ := sole_head h.2.2.2 (of_decide_eq_true h.2.1); rw [shapeF, k1, k2, k3, k4, k5, hq]; exact hy) (all_empty ha) hws hr h.2.2.1 (all_empty hm)
   | false =>
     rw [k5, cond_false] at h
     simp only [aloneB, Bool.and_eq_true] at h
     have k34 : ((x.kind == 2 || x.kind == 3) || x.kind == 4) = true := by rw [k5] at kj; simpa using kj
     exact nodeF_of hw hl hn (by rw [shapeF, k1, k34]; exact lists_full h.2.2.1) (all_empty ha) hws hr h.2.2.1 (all_empty hm)
 | false =>
   rw [kj, cond_false] at h
   have k234 : ((x.kind == 2 || x.kind == 3) || x.kind == 4) = false := by
    simp only [Bool.or_eq_false_iff] at kj ⊢; exact ⟨kj.1, kj.2.1⟩
   have k5 : (x.kind == 5) = false := by simp only [Bool.or_eq_false_iff] at kj; exact kj.2.2
   have lenOf : ∀ {q : Nat}, listsB ls x q = true → x.lists.length = q ∧ x.lists.all (somesB ls) = true := fun h => by
    rw [listsB, Bool.and_eq_true] at h; exact ⟨of_decide_eq_true h.1, h.2⟩
   rw [compoundB] at h
   cases k6 : (x.kind == 6) with
   | true =>
     have k11 : (x.kind == 11) = false := by rw [eq_of_beq k6]; rfl
     rw [k6, cond_true] at h
     simp only [bareN, Bool.and_eq_true, Bool.or_eq_true] at h
     obtain ⟨⟨_, ha, _, hm⟩, h⟩ := h
     have h2 : 2 ≤ x.lists.length ∧ x.lists.all (somesB ls) = true := by
      rcases h with h | h <;> (have := lenOf h; exact ⟨by omega, this.2⟩)
     exact nodeF_of hw hl hn (by rw [shapeF, k1, k234, k5, k11, k6]; exact decide_eq_true h2.1) (all_empty ha) hws hr h2.2 (all_empty hm)
   | false =>
   rw [k6, cond_false] at h
   cases k78 : (x.kind == 7 || x.kind == 8) with
   | true =>
     have k11 : (x.kind == 11) = false := by
      rw [Bool.or_eq_true] at k78; rcases k78 with k | k <;> (rw [eq_of_beq k]; rfl)
     rw [k78, cond_true] at h
     simp only [bareN, Bool.and_eq_true] at h
     obtain ⟨⟨_, ha, _, hm⟩, h⟩ := h
     have h2 := lenOf h
     exact nodeF_of hw hl hn (by rw [shapeF, k1, k234, k5, k11, k6, k78]; exact decide_eq_true (by omega)) (all_empty ha) hws hr h2.2 (all_empty hm)
   | false =>
   rw [k78, cond_false] at h
   cases kc : (x.kind == 12 || x.kind == 13) with
   | true =>
     have k11 : (x.kind == 11) = false := by
      rw [Bool.or_eq_true] at kc; rcases kc with k | k <;> (rw [eq_of_beq k]; rfl)
     have k10 : (x.kind == 10) = false := by
      rw [Bool.or_eq_true] at kc; rcases kc with k | k <;> (rw [eq_of_beq k]; rfl)
     rw [kc, cond_true] at h
     simp only [bareN, Bool.and_eq_true] at h
     obtain ⟨⟨_, ha, _, hm⟩, h⟩ := h
     have h2 := lenOf h
     exact nodeF_of hw hl hn (by rw [shapeF, k1, k234, k5, k11, k6, k78, k10]; exact decide_eq_true (by omega)) (all_empty ha) hws hr h2.2 (all_empty hm)
   | false =>
   rw [kc, cond_false] at h
   cases k9 : (x.kind == 9) with
   | true =>
     have k11 : (x.kind == 11) = false := by rw [eq_of_beq k9]; rfl
     have k10 : (x.kind == 10) = false := by rw [eq_of_beq k9]; rfl
     rw [k9, cond_true] at h
     simp only [Bool.and_eq_true] at h
     obtain ⟨_, ⟨ha, hm⟩, h⟩ := h
     have h2 := lenOf h
     exact nodeF_of hw hl hn (by rw [shapeF, k1, k234, k5, k11, k6, k78, k10]; exact decide_eq_true (by omega)) (all_empty ha) hws hr h2.2 (all_empty hm)
   | false =>
   rw [k9, cond_false] at h
   cases k10 : (x.kind == 10) with
   | true =>
     have k11 : (x.kind == 11) = false := by rw [eq_of_beq k10]; rfl
     rw [k10, cond_true] at h
     simp only [Bool.and_eq_true] at h
     obtain ⟨_, ha, hw1, h, hm⟩ := h
     have h2 := lenOf h
     have hw2 := of_decide_eq_true hw1
     exact nodeF_of hw hl hn (by rw [shapeF, k1, k234, k5, k11, k6, k78, k10]; cases hq : x.words with | nil => rw [hq] at hw2; simp at hw2 | cons => rfl) (all_empty ha) hws hr h2.2 hm
   | false =>
   rw [k10, cond_false] at h
   cases k11 : (x.kind == 11) with
   | true =>
     rw [k11, cond_true] at h
     simp only [aloneB, Bool.and_eq_true] at h
     obtain ⟨_, _, ⟨ha, _, hm, _⟩, _, hc, hls, hs⟩ := h
     exact nodeF_of hw hl hn (by obtain ⟨y, r, hq, hy⟩ := sole_head hs (of_decide_eq_true hc); rw [shapeF, k1, k234, k5, k11, hq]; exact hy) (all_empty ha) hws hr hls (all_empty hm)
   | false =>
     rw [k11, cond_false] at h
     exact Bool.noConfusion h
end

theorem partF_ok {wd : List Pt → Bool} {ls : List Nd → Bool} {fw : List Pt → Bool} {fl : List Nd → Bool} (hw : ∀ y, wd y = true → fw y = true) (hl : ∀ y, ls y = true → fl y = true) (h0 : fw [] = true) (h1 : fl [] = true) {q : Option Pt} {p : Pt} (h : partB wd ls q p = true) (hlit : p.kind = 1 → p.word = [] ∧ p.body = []) : partF fw fl p = true := by
 have e0 : ∀ {l : List Pt}, l.isEmpty = true → fw l = true := fun h => by rw [List.isEmpty_iff] at h; rw [h]; exact h0
 have e1 : ∀ {l : List Nd}, l.isEmpty = true → fl l = true := fun h => by rw [List.isEmpty_iff] at h; rw [h]; exact h1
 rw [partB, Bool.and_eq_true] at h
 rw [partF, Bool.and_eq_true]
 have h := h.2
 cases k1 : (p.kind == 1) with
 | true =>
   obtain ⟨a, b⟩ := hlit (eq_of_beq k1)
   rw [a, b]; exact ⟨h0, h1⟩
 | false =>
 rw [k1, cond_false] at h
 cases k2 : (p.kind == 2) with
 | true =>
   rw [k2, cond_true, paramB, Bool.and_eq_true] at h
   have hb : p.body.isEmpty = true := by
    have h3 := h.1
    cases hq : p.body.isEmpty with
    | true => rfl
    | false => rw [hq] at h3; simp at h3
   refine ⟨?_, e1 hb⟩
   have h3 := h.2
   cases ho : (L p.op).isEmpty with
   | true => rw [ho, cond_true] at h3; exact e0 h3
   | false =>
   rw [ho, cond_false] at h3
   cases h5 : (L p.op == [108, 101, 110]) with
   | true => rw [h5, cond_true, Bool.and_eq_true] at h3; exact e0 h3.2
   | false =>
     rw [h5, cond_false] at h3
     simp only [Bool.and_eq_true] at h3
     exact hw _ h3.2.2.2
 | false =>
 rw [k2, cond_false] at h
 cases k3 : (p.kind == 3) with
 | true =>
   rw [k3, cond_true] at h
   simp only [Bool.and_eq_true] at h
   exact ⟨e0 h.2.2.1, hl _ h.2.2.2⟩
 | false =>
 rw [k3, cond_false] at h
 cases k4 : (p.kind == 4) with
 | true =>
   rw [k4, cond_true] at h
   simp only [Bool.and_eq_true] at h
   exact ⟨e0 h.2.2.1, e1 h.2.2.2⟩
 | false => rw [k4, cond_false] at h; exact Bool.noConfusion h
end Go.Proofs.YtnackmnoldkihaaGreatDoor
/-
  What is right can be shown, at every depth.
-/
namespace Go.Proofs.YtnackmnoldkihaaGreatDoor
open Go.RowKit

theorem lit_bare {q : Option Pt} {p : Pt} {wd : List Pt → Bool} {ls : List Nd → Bool} (h : partB wd ls q p = true) (h1 : p.kind = 1) : p.word = [] ∧ p.body = [] := by
 rw [partB, Bool.and_eq_true] at h
 have h := h.2
 rw [show (p.kind == 1) = true by rw [h1]; rfl, cond_true] at h
 simp only [litB, Bool.and_eq_true, List.isEmpty_iff] at h
 exact ⟨h.1.1.2.1, h.1.1.2.2⟩
theorem parts_all {f : Option Pt → Pt → Bool} {g : Pt → Bool} (hf : ∀ q p, f q p = true → g p = true) : ∀ (l : List Pt) (q : Option Pt), partsB f q l = true → l.all g = true
 | [], _, _ => rfl
 | p :: l, q, h => by
   rw [partsB, Bool.and_eq_true] at h
   rw [List.all_cons, Bool.and_eq_true]
   exact ⟨hf _ _ h.1, parts_all hf l _ h.2⟩
theorem okW_nil (n : Nat) : okW n [] = true := by cases n <;> rw [okW] <;> rfl
theorem okL_nil (n : Nat) : okL n [] = true := by cases n <;> rw [okL] <;> rfl
theorem okL_all {n : Nat} {l : List Nd} {g : Nd → Bool} (h : okL n l = true) (hg : ∀ m, n = m + 1 → ∀ x, nodeB (okW m) (okL m) x = true → g x = true) : l.all g = true := by
 cases n with
 | zero => rw [okL, List.isEmpty_iff] at h; rw [h]; rfl
 | succ m => rw [okL] at h; exact all_of h (hg m rfl)
/-- Of what is right all can be shown. -/
theorem right_lev : ∀ d n, (∀ y, okW n y = true → (levF d).1 y = true) ∧ (∀ l, okL n l = true → (levF d).2.1 l = true) ∧ (∀ l, okL n l = true → l.all (levF d).2.2 = true)
 | 0, n => ⟨fun _ _ => rfl, fun _ _ => rfl, fun l h => okL_all h fun m _ x hx => nodeF_ok (wd := okW m) (ls := okL m) (fun _ _ => rfl) (fun _ _ => rfl) (fun y _ => List.all_eq_true.2 fun _ _ => rfl) hx⟩
 | d + 1, n => by
   have h1 : ∀ n y, okW n y = true → (levF (d + 1)).1 y = true := fun n y h => by
    show y.all (partF (levF d).1 (levF d).2.1) = true
    cases n with
    | zero => rw [okW, List.isEmpty_iff] at h; rw [h]; rfl
    | succ m =>
      rw [okW] at h
      obtain ⟨g1, g2, _⟩ := right_lev d m
      exact parts_all (fun q p hp => partF_ok g1 g2 (g1 _ (okW_nil m)) (g2 _ (okL_nil m)) hp (lit_bare hp)) y _ h
   have h2 : ∀ n l, okL n l = true → (levF (d + 1)).2.1 l = true := fun n l h => (right_lev d n).2.2 l h
   exact ⟨h1 n, h2 n, fun l h => okL_all h fun m _ x hx => nodeF_ok (h1 m) (h2 m) (right_lev d m).2.2 hx⟩
theorem right_shows (d n : Nat) (l : List Nd) (h : okL n l = true) : (levF d).2.1 l = true := (right_lev d n).2.1 l h
/-- What is shown of commands is not empty. -/
theorem show_ne (d : Nat) (l : List Nd) (hd : l ≠ []) : showL (d + 1) l ≠ [] := by
 cases l with
 | nil => exact absurd rfl hd
 | cons x r =>
   intro h
   have h1 : (lineS ((levS d).2.2 ([], []) x)).1.length ≤ (showL (d + 1) (x :: r)).length :=
    fold_grow (f := fun s x => lineS ((levS d).2.2 s x)) (fun s x => Nat.le_trans ((levS_grow d).2.2 s x) (lineS_grow _)) r (lineS ((levS d).2.2 ([], []) x))
   rw [h] at h1
   simp [lineS] at h1
end Go.Proofs.YtnackmnoldkihaaGreatDoor
/-
  The walk of Show of no commands.
-/
namespace Go.Proofs.YtnackmnoldkihaaGreatDoor
open Go.RowKit

set_option maxHeartbeats 1000000 in
set_option maxRecDepth 100000 in
theorem wlist_nil (p : Value) (a : Option Addr) (cap : Nat) (W : World) :
 Calls Tryz.prog 48 #[p, .slice a 0 cap] W fun e w' => e = .returned (.tuple #[]) ∧ Below W.heap.size W w' := by
 go_enter Tryz.func48, Tryz.ntmps48
 go_wp2_with fail
 refine wp_loop_rounds 1 ?_
 rw [rounds_succ]
 go_wp2_with fail
 go_end0
 exact ⟨rfl, bg⟩
set_option maxHeartbeats 1000000 in
set_option maxRecDepth 100000 in
theorem string_nil {W : World} {B b : Nat} {p dv : Value} (hbk : W.heap[b]? = some (.cells #[p, .slice none 0 0, dv] 84 (0, 0))) (hB : B ≤ W.heap.size) :
 Calls Tryz.prog 49 #[.pointer (some ⟨b, 0, none⟩)] W fun e w' => e = .returned (.string ByteArray.empty) ∧ Below B W w' := by
 have c1 : W.drew.cell? ⟨b, 1, none⟩ = some (.slice none 0 0) := by
  have : W.drew.heap[b]? = some (.cells #[p, .slice none 0 0, dv] 84 (0, 0)) := hbk
  rw [Lib.cell_of_heap this]; rfl
 have hSD : (Builtin.unsafeSliceData_ #[76] 107 #[.slice none 0 0]).run Tryz.prog W.drew = .ok (.pointer none) W.drew := rfl
 have hUS : (Builtin.unsafeString_ #[107, 3] 9 #[.pointer none, .int .i64 0]).run Tryz.prog W.drew = .ok (.string ByteArray.empty) W.drew := by rfl
 clear hbk hB
 go_enter Tryz.func49, Tryz.ntmps49
 go_wp2
 go_region
 all_goals (go_wp2; go_ret; exact ⟨rfl, Below.drew (Below.refl B W)⟩)
set_option maxHeartbeats 1000000 in
set_option maxRecDepth 100000 in
theorem show_nil (a : Option Addr) (cap : Nat) (w : World) :
 Calls Tryz.prog 33 #[.slice a 0 cap] w fun e w' => e = .returned (.string ByteArray.empty) ∧ Below w.heap.size w w' := by
 obtain ⟨W, hW⟩ : ∃ W, W = w.alloc (.cells #[.pointer none, .slice none 0 0, .slice none 0 0] 84) := ⟨_, rfl⟩
 have HK : Hid (Blk W w.heap.size 84 #[.pointer none, .slice none 0 0, .slice none 0 0]) := Lib.hid (by rw [hW]; exact Blk.new _ _ _)
 have HBL : Hid (Below w.heap.size w W) := Lib.hid (by rw [hW]; exact (Below.refl _ _).alloc (Nat.le_refl _) _)
 have CL := Lib.hid (wlist_nil (.pointer (some ⟨w.heap.size, 0, none⟩)) a cap W)
 have HW := Lib.hid hW
 clear hW
 go_enter Tryz.func33, Tryz.ntmps33
 go_wp2_with fail
 rw [← HW.out]
 refine CL.out.mono ?_
 rintro e w1 ⟨rfl, hlow⟩
 have HB1 : Hid (Below w.heap.size w w1) := Lib.hid (HBL.out.trans (hlow.mono HBL.out.size))
 have CS := Lib.hid (string_nil (B := w.heap.size) (HK.out.below hlow HK.out.lt) HB1.out.size)
 clear hlow
 go_wp2_with fail
 refine CS.out.mono ?_
 rintro e w2 ⟨rfl, hb⟩
 have HB2 := Lib.hid (HB1.out.trans hb)
 clear hb
 go_wp2_with fail
 go_ret
 exact ⟨rfl, HB2.out⟩
end Go.Proofs.YtnackmnoldkihaaGreatDoor
namespace Go.Proofs.YtnackmnoldkihaaGreatDoor
open Go.RowKit

theorem showL_nil (d : Nat) : showL d [] = [] := by cases d <;> rfl
theorem show_right (d n : Nat) (l : List Nd) (v : Value) (w : World) (hH : Hd w w.heap.size) (hl : NdsIn w w.heap.size d l v) (h : okL n l = true) (hlen : (showL d l).length ≤ lim) :
 Calls Tryz.prog 33 #[v] w fun e w' => e = .returned (.string (S (showL d l))) ∧ Below w.heap.size w w' := by
 cases l with
 | nil =>
   obtain ⟨a, cap, rfl, _⟩ := hl.shape
   rw [showL_nil]
   exact show_nil a cap w
 | cons x r =>
   cases d with
   | zero =>
     rw [NdsIn] at hl
     have e := hl.zero
     simp at e
   | succ d => exact show_any (d + 1) _ v w hH hl (right_shows _ n _ h) (show_ne d _ (by simp)) hlen
end Go.Proofs.YtnackmnoldkihaaGreatDoor
