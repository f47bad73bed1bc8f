/-
  The document's writer: if.
-/
import Derived.Test.YtnackmnoldkihaaGreatDoorW37
set_option linter.unusedVariables false
set_option linter.unusedSimpArgs false
namespace Go.Proofs.YtnackmnoldkihaaGreatDoor
open Go.RowKit

set_option maxHeartbeats 8000000 in
set_option maxRecDepth 100000 in
theorem rnode_if {B d : Nat} (hT : RTextAt B d) (hLn : RLineAt B) (hLs : RListAtS B d) (hNd : ∀ d', d = d' + 1 → RNodeAtS B d') (W0 : World) (dv0 : Value) (out0 : List UInt8) (ds0 : List DocV) (x : Nd) (c : List Value) (h : RW W0 B dv0 out0 ds0) (hc : NdC W0 B d x c) (hg : nodeG (levG d).1 (levG d).2.1 (gnD d) x = true) (hk : x.kind = 6) (hlen : (redirsS (levS d).1 (putS (bif decide (2 < x.lists.length) then blockS (levS d).2.1 (blockS (levS d).2.1 (blockS (levS d).2.1 (stOf out0 ds0) [105, 102] (listAt x 0)) [116, 104, 101, 110] (listAt x 1)) [101, 108, 115, 101] (listAt x 2) else blockS (levS d).2.1 (blockS (levS d).2.1 (stOf out0 ds0) [105, 102] (listAt x 0)) [116, 104, 101, 110] (listAt x 1)) [102, 105]) x.redirs true).1.length ≤ lim) :
 Calls Tryz.prog 63 #[.agg #[.string (S out0), dv0], .agg c.toArray] W0 (RS W0 B (redirsS (levS d).1 (putS (bif decide (2 < x.lists.length) then blockS (levS d).2.1 (blockS (levS d).2.1 (blockS (levS d).2.1 (stOf out0 ds0) [105, 102] (listAt x 0)) [116, 104, 101, 110] (listAt x 1)) [101, 108, 115, 101] (listAt x 2) else blockS (levS d).2.1 (blockS (levS d).2.1 (stOf out0 ds0) [105, 102] (listAt x 0)) [116, 104, 101, 110] (listAt x 1)) [102, 105]) x.redirs true)) := by
 obtain ⟨w, hw⟩ : ∃ w, w = W0 := ⟨_, rfl⟩
 subst hw
 have hBw := h.2.2.2
 rw [nodeG, Bool.and_eq_true, nodeF, Bool.and_eq_true, Bool.and_eq_true, Bool.and_eq_true, Bool.and_eq_true, Bool.and_eq_true, Bool.and_eq_true] at hg
 obtain ⟨hkb, hsh, hfas, hfw, hfr, hfl, hfn, hfa⟩ := hg
 obtain ⟨a1, c1, a2, c2, a3, c3, a4, c4, a5, c5, rfl, hxz, ⟨hn1, hn2, hn3, hn4, hn5⟩, hAs, hWs, hRd, hLs0, hAr⟩ := hc.open
 obtain ⟨n1, hl1⟩ : ∃ n, x.assigns.length = n := ⟨_, rfl⟩
 obtain ⟨n2, hl2⟩ : ∃ n, x.words.length = n := ⟨_, rfl⟩
 obtain ⟨n3, hl3⟩ : ∃ n, x.redirs.length = n := ⟨_, rfl⟩
 obtain ⟨n4, hl4⟩ : ∃ n, x.lists.length = n := ⟨_, rfl⟩
 obtain ⟨n5, hl5⟩ : ∃ n, x.arms.length = n := ⟨_, rfl⟩
 rw [hl1] at hn1 hAs ⊢
 rw [hl2] at hn2 hWs ⊢
 rw [hl3] at hn3 hRd ⊢
 rw [hl4] at hn4 hLs0 ⊢
 rw [hl5] at hn5 hAr ⊢
 have HAS := Lib.hid hAs
 have HWS := Lib.hid hWs
 have HRD := Lib.hid hRd
 have HLI := Lib.hid hLs0
 have HARM := Lib.hid hAr
 have N1 := Lib.hid hl1
 have N2 := Lib.hid hl2
 have N3 := Lib.hid hl3
 have N4 := Lib.hid hl4
 have N5 := Lib.hid hl5
 have GAS := Lib.hid (List.all_eq_true.1 hfas)
 have GWS := Lib.hid (List.all_eq_true.1 hfw)
 have GRD := Lib.hid hfr
 have GLI := Lib.hid (List.all_eq_true.1 hfl)
 have GLN := Lib.hid (List.all_eq_true.1 hfn)
 have GAR := Lib.hid (List.all_eq_true.1 hfa)
 have GSH := Lib.hid hsh
 have GKB := Lib.hid hkb
 have HT := Lib.hid hT
 have HLN := Lib.hid hLn
 have HLS := Lib.hid hLs
 have HND := Lib.hid hNd
 have HK := Lib.hid hk
 obtain ⟨a9, c9, rfl⟩ := h.shape
 obtain ⟨n0, hn0⟩ : ∃ n, ds0.length = n := ⟨_, rfl⟩
 rw [hk]
 have HB0 := Lib.hid (BW.start2 h 64 #[.int .i64 6, .string x.name, .slice a1 n1 c1, .slice a2 n2 c2, .slice a3 n3 c3, .slice a4 n4 c4, .slice a5 n5 c5])
 rw [hn0] at HB0 ⊢
 obtain ⟨s0, hs0⟩ : ∃ s, stOf out0 ds0 = s := ⟨_, rfl⟩
 have HS0 := Lib.hid hs0
 rw [hs0] at hlen ⊢
 have HLEN := Lib.hid hlen
 clear hl1 hl2 hl3 hl4 hl5 hAs hWs hRd hLs0 hAr hfas hfw hfr hfl hfn hfa hsh hkb hT hLn hLs hNd hk h hc hn0 hs0 hlen
 rw [N4.out] at HLEN
 have hn40 : 1 < n4 := by
  have h1 := GSH.out
  rw [shapeF, HK.out] at h1
  have h2 : 2 ≤ x.lists.length := of_decide_eq_true h1
  have := N4.out
  omega
 have hn43 : n4 ≤ 3 := by
  have h1 := GKB.out
  rw [nkindB, HK.out] at h1
  simp at h1
  have := N4.out
  omega
 obtain ⟨b0, o0, la0, lc0, hi0, hbB0, hce0, hyp0, hmem0⟩ := list_at HLI.out (k := 0) (by rw [N4.out]; omega)
 have hbw0 := Nat.lt_of_lt_of_le hbB0 hBw
 have HYP0 : Hid (NdsIn w B d (listAt x 0) (.slice la0 (listAt x 0).length lc0)) := Lib.hid hyp0
 have HGL0 : Hid ((levG d).2.1 (listAt x 0) = true) := Lib.hid (GLI.out _ hmem0)
 have HGN0 : Hid ((listAt x 0).all (gnD d) = true) := Lib.hid (GLN.out _ hmem0)
 have E0 : Hid (w.cell? ⟨b0, o0, none⟩ = some (.slice la0 (listAt x 0).length lc0)) := Lib.hid hce0
 have hbg0 : b0 ≠ w.heap.size := by omega
 have hj0 : ∀ w' : World, (Instr.indexAt 61 (.slice a4 n4 c4) (.int .i64 0)).run Tryz.prog w' = .ok (.pointer (some ⟨b0, o0, none⟩)) w' := fun w' => hi0 w'
 clear hi0
 obtain ⟨ny0, hny0⟩ : ∃ n, (listAt x 0).length = n := ⟨_, rfl⟩
 rw [hny0] at HYP0 E0
 clear hce0 hyp0 hmem0 hny0
 obtain ⟨b1, o1, la1, lc1, hi1, hbB1, hce1, hyp1, hmem1⟩ := list_at HLI.out (k := 1) (by rw [N4.out]; omega)
 have hbw1 := Nat.lt_of_lt_of_le hbB1 hBw
 have HYP1 : Hid (NdsIn w B d (listAt x 1) (.slice la1 (listAt x 1).length lc1)) := Lib.hid hyp1
 have HGL1 : Hid ((levG d).2.1 (listAt x 1) = true) := Lib.hid (GLI.out _ hmem1)
 have HGN1 : Hid ((listAt x 1).all (gnD d) = true) := Lib.hid (GLN.out _ hmem1)
 have E1 : Hid (w.cell? ⟨b1, o1, none⟩ = some (.slice la1 (listAt x 1).length lc1)) := Lib.hid hce1
 have hbg1 : b1 ≠ w.heap.size := by omega
 have hj1 : ∀ w' : World, (Instr.indexAt 61 (.slice a4 n4 c4) (.int .i64 1)).run Tryz.prog w' = .ok (.pointer (some ⟨b1, o1, none⟩)) w' := fun w' => hi1 w'
 clear hi1
 obtain ⟨ny1, hny1⟩ : ∃ n, (listAt x 1).length = n := ⟨_, rfl⟩
 rw [hny1] at HYP1 E1
 clear hce1 hyp1 hmem1 hny1
 obtain ⟨sb, hsb⟩ : ∃ s, blockS (levS d).2.1 (blockS (levS d).2.1 s0 [105, 102] (listAt x 0)) [116, 104, 101, 110] (listAt x 1) = s := ⟨_, rfl⟩
 have HSB := Lib.hid hsb
 rw [hsb] at HLEN ⊢
 obtain ⟨sc, hsc⟩ : ∃ s, (bif decide (2 < n4) then blockS (levS d).2.1 sb [101, 108, 115, 101] (listAt x 2) else sb) = s := ⟨_, rfl⟩
 have HSC := Lib.hid hsc
 rw [hsc] at HLEN ⊢
 have HLC : Hid ((putS sc [102, 105]).1.length ≤ lim) := Lib.hid (Nat.le_trans (redirsS_grow (levS_grow d).1 _ _ _) HLEN.out)
 have HLC0 : Hid (sc.1.length ≤ lim) := Lib.hid (Nat.le_trans (putS_grow _ _) HLC.out)
 have HLB1 : Hid ((blockS (levS d).2.1 (blockS (levS d).2.1 s0 [105, 102] (listAt x 0)) [116, 104, 101, 110] (listAt x 1)).1.length ≤ lim) := Lib.hid (by
  rw [hsb]
  refine Nat.le_trans ?_ HLC0.out
  rw [← hsc]
  cases decide (2 < n4)
  · exact Nat.le_refl _
  · exact blockS_grow (levS_grow d).2.1 _ _ _)
 have HLB0 : Hid ((blockS (levS d).2.1 s0 [105, 102] (listAt x 0)).1.length ≤ lim) := Lib.hid (Nat.le_trans (blockS_grow (levS_grow d).2.1 _ _ _) HLB1.out)
 clear hsb hsc
 go_enter Tryz.func63, Tryz.ntmps63
 go_upto_region 1 with fail
 obtain ⟨V, hV⟩ : ∃ V, V = ((w.alloc (.cells #[.string (S out0), .slice a9 n0 c9] 87)).alloc (.cells #[.int .i64 6, .string x.name, .slice a1 n1 c1, .slice a2 n2 c2, .slice a3 n3 c3, .slice a4 n4 c4, .slice a5 n5 c5] 64)).alloc (.cells #[.string ⟨#[]⟩, .slice none 0 0] 87) := ⟨_, rfl⟩
 have HNB : Hid (Blk V (w.heap.size + 1) 64 #[.int .i64 6, .string x.name, .slice a1 n1 c1, .slice a2 n2 c2, .slice a3 n3 c3, .slice a4 n4 c4, .slice a5 n5 c5]) := Lib.hid (by rw [hV]; exact (Blk.at (by simp)).alloc _)
 rw [← hV] at HB0 ⊢
 clear hV
 have HX0 : Hid (InX w V B 64 #[.int .i64 6, .string x.name, .slice a1 n1 c1, .slice a2 n2 c2, .slice a3 n3 c3, .slice a4 n4 c4, .slice a5 n5 c5] s0) := Lib.hid ⟨⟨_, _, _, HB0.out, HS0.out⟩, HNB.out⟩
 have HLO := Lib.hid HB0.out.low
 have CB : Hid (∀ U, Below V.heap.size V U → Calls Tryz.prog 86 #[.agg #[.string (S out0), .slice a9 n0 c9], .string ⟨#[105, 102]⟩, .slice la0 ny0 lc0] U (RS U B (blockS (levS d).2.1 s0 [105, 102] (listAt x 0)))) := Lib.hid fun U hU => by
  have := rblock_any HLN.out HLS.out U _ out0 ds0 ⟨#[105, 102]⟩ (listAt x 0) _ (HB0.out.rw.below hU) (HYP0.out.below ((HLO.out.trans (hU.mono HLO.out.size)).mono hBw)) HGL0.out (by rw [HS0.out]; exact HLB0.out)
  rw [HS0.out] at this
  exact this
 obtain ⟨x0, x1, x2, x3, x4, x5, x6, xl⟩ := HNB.out.box7
 go_upto_region 28 with fail
 have e0 := (HLO.out.cell hbw0).trans E0.out
 have hbr0 : b0 < V.heap.size := Nat.lt_of_lt_of_le hbw0 HLO.out.size
 have e1 := (HLO.out.cell hbw1).trans E1.out
 have hbr1 : b1 < V.heap.size := Nat.lt_of_lt_of_le hbw1 HLO.out.size
 clear x0 x1 x2 x3 x4 x6 HX0
 obtain ⟨p0, p1, pf, pg, pl, pr0, pr1, prf, prg, prl⟩ := HB0.out.boxw
 refine wp_region_held_drew (S := fun w' => w'.cell? ⟨w.heap.size + 1, 5, none⟩ = some (.slice a4 n4 c4) ∧ w'.cell? ⟨b0, o0, none⟩ = some (.slice la0 ny0 lc0) ∧ w'.cell? ⟨b1, o1, none⟩ = some (.slice la1 ny1 lc1)) (by kernel_rfl) ?_ (fun hHeld => ?_)
 · exact ⟨x5, e0, e1⟩
 refine tk 1 ?_
 refine tk 2 ?_
 refine tk 3 ?_
 refine tk 4 ?_
 refine tk 6 ?_
 refine tk 7 ?_
 refine tk 8 ?_
 refine tk 9 ?_
 try simp only [Act.put, List.getElem_toArray, List.getElem_cons_zero, List.getElem_cons_succ, List.setIfInBounds_toArray, List.set_cons_zero, List.set_cons_succ]
 refine wpAnyH_ready (rs := [0]) (by kernel_rfl) (by simp) ?_
 refine AllReadyH.cons rfl (fun K hK => ?_) AllReadyH.nil
 go_simp
 refine hK.out _ _ ?_ (fun hHeld => ?_)
 · exact ⟨x5, e0, e1⟩
 clear hK K
 try simp only [Act.put, List.getElem_toArray, List.getElem_cons_zero, List.getElem_cons_succ, List.setIfInBounds_toArray, List.set_cons_zero, List.set_cons_succ]
 refine wpAnyH_ready (rs := [5]) (by kernel_rfl) (by simp) ?_
 refine AllReadyH.cons rfl (fun K hK => ?_) AllReadyH.nil
 go_simp
 go_at_call 86
 refine (CB.out _ (Below.drew (Below.refl _ _))).mono ?_
 rintro e w12 hrs
 obtain ⟨dv12, q12, ds12, rfl, hs12, hr12, hb12⟩ := hrs.st
 obtain ⟨a12, c12, rfl⟩ := hr12.shape
 have HB12 := Lib.hid (((Below.refl _ _).drew).trans (show Below V.heap.size V.drew w12 from hb12))
 have HR12 := Lib.hid hr12
 have HS12 := Lib.hid hs12
 obtain ⟨n12, hn12⟩ : ∃ n, ds12.length = n := ⟨_, rfl⟩
 rw [hn12] at HR12 ⊢
 have HN12 := Lib.hid hn12
 clear hrs hr12 hs12 hb12 hn12
 go_wp2_with fail
 refine hK.out _ _ ?_ (fun hHeld => ?_)
 · exact ⟨(HB12.out.cell xl).trans x5, (HB12.out.cell hbr0).trans e0, (HB12.out.cell hbr1).trans e1⟩
 clear hK K
 try simp only [Act.put, List.getElem_toArray, List.getElem_cons_zero, List.getElem_cons_succ, List.setIfInBounds_toArray, List.set_cons_zero, List.set_cons_succ]
 rw [HS12.out] at HLB1 HSB
 have CB2 := Lib.hid (rblock_any HLN.out HLS.out w12 _ q12 ds12 ⟨#[116, 104, 101, 110]⟩ (listAt x 1) (.slice la1 ny1 lc1) HR12.out (HYP1.out.below ((HLO.out.trans (HB12.out.mono HLO.out.size)).mono hBw)) HGL1.out HLB1.out)
 refine wpAnyH_ready (rs := [10]) (by kernel_rfl) (by simp) ?_
 refine AllReadyH.cons rfl (fun K hK => ?_) AllReadyH.nil
 go_simp
 go_at_call 86
 refine CB2.out.mono ?_
 rintro e w11 hrs
 obtain ⟨dv11, q11, ds11, rfl, hs11, hr11, hb11⟩ := hrs.st
 obtain ⟨a11, c11, rfl⟩ := hr11.shape
 have HB11 := Lib.hid (HB12.out.trans (hb11.mono HB12.out.size))
 have HR11 := Lib.hid hr11
 have HS11 := Lib.hid hs11
 obtain ⟨n11, hn11⟩ : ∃ n, ds11.length = n := ⟨_, rfl⟩
 rw [hn11] at HR11 ⊢
 have HN11 := Lib.hid hn11
 clear hrs hr11 hs11 hb11 hn11
 have HS11' : Hid (sb = stOf q11 ds11) := Lib.hid (HSB.out.symm.trans HS11.out)
 have HS11 := HS11'
 have HK11 := Lib.hid (HB0.out.later HB11.out)
 clear p0 p1 pf pg pl pr0 pr1 prf prg prl
 obtain ⟨p0, p1, pf, pg, pl, pr0, pr1, prf, prg, prl⟩ := HK11.out.boxw
 go_wp2_with fail
 refine hK.out _ _ ?_ (fun hHeld => ?_)
 · exact ⟨(HB11.out.cell xl).trans x5, (HB11.out.cell hbr0).trans e0, (HB11.out.cell hbr1).trans e1⟩
 clear hK K
 try simp only [Act.put, List.getElem_toArray, List.getElem_cons_zero, List.getElem_cons_succ, List.setIfInBounds_toArray, List.set_cons_zero, List.set_cons_succ]
 refine wpAnyH_ready (rs := [11]) (by kernel_rfl) (by simp) ?_
 refine AllReadyH.cons rfl (fun K hK => ?_) AllReadyH.nil
 go_simp
 refine hK.out _ _ ?_ (fun hHeld => ?_)
 · exact ⟨cell_far2 ((HB11.out.cell xl).trans x5) (by omega), cell_far2 ((HB11.out.cell hbr0).trans e0) hbg0, cell_far2 ((HB11.out.cell hbr1).trans e1) hbg1⟩
 clear hK K
 try simp only [Act.put, List.getElem_toArray, List.getElem_cons_zero, List.getElem_cons_succ, List.setIfInBounds_toArray, List.set_cons_zero, List.set_cons_succ]
 refine wpAnyH_done (by kernel_rfl) ?_ _
 have HE11 := Lib.hid (HB0.out.putX HNB.out HB11.out HR11.out HS11.out)
 clear p0 p1 pf pg pl pr0 pr1 prf prg prl
 clear hHeld
 obtain ⟨V2, hV2⟩ : ∃ V2, V2 = (w11.setCell ⟨w.heap.size, 0, none⟩ (.string (S q11))).setCell ⟨w.heap.size, 1, none⟩ (.slice a11 n11 c11) := ⟨_, rfl⟩
 rw [← hV2] at HE11 ⊢
 clear hV2
 clear x5 xl e0 hbr0 hj0 e1 hbr1 hj1 CB CB2
 obtain ⟨da5, nd5, dc5, q5, ds5, hb5, hst5, hnd5, hak5⟩ := HE11.out.open
 have HB5 := Lib.hid hb5
 have HST5 := Lib.hid hst5
 have HAK5 := Lib.hid hak5
 clear hb5 hst5 hnd5 hak5
 obtain ⟨x0, x1, x2, x3, x4, x5, x6, xl⟩ := HAK5.out.box7
 go_upto_if 122 with fail
 go_cut [] (fun W => InX w W B 64 #[.int .i64 6, .string x.name, .slice a1 n1 c1, .slice a2 n2 c2, .slice a3 n3 c3, .slice a4 n4 c4, .slice a5 n5 c5] sc)
 case first =>
  by_cases h3 : n4 = 3
  · have g3 : ((n4 : Int) == 3) = true := by simp [h3]
    have hd3 : decide (2 < n4) = true := by simp [h3]
    have HSD : Hid (sc = blockS (levS d).2.1 sb [101, 108, 115, 101] (listAt x 2)) := Lib.hid (by rw [← HSC.out, hd3]; rfl)
    have hn42 : 2 < n4 := by omega
    clear hd3 h3
    obtain ⟨b2, o2, la2, lc2, hi2, hbB2, hce2, hyp2, hmem2⟩ := list_at HLI.out (k := 2) (by rw [N4.out]; omega)
    have hbw2 := Nat.lt_of_lt_of_le hbB2 hBw
    have HYP2 : Hid (NdsIn w B d (listAt x 2) (.slice la2 (listAt x 2).length lc2)) := Lib.hid hyp2
    have HGL2 : Hid ((levG d).2.1 (listAt x 2) = true) := Lib.hid (GLI.out _ hmem2)
    have HGN2 : Hid ((listAt x 2).all (gnD d) = true) := Lib.hid (GLN.out _ hmem2)
    have E2 : Hid (w.cell? ⟨b2, o2, none⟩ = some (.slice la2 (listAt x 2).length lc2)) := Lib.hid hce2
    have hbg2 : b2 ≠ w.heap.size := by omega
    have hj2 : ∀ w' : World, (Instr.indexAt 61 (.slice a4 n4 c4) (.int .i64 2)).run Tryz.prog w' = .ok (.pointer (some ⟨b2, o2, none⟩)) w' := fun w' => hi2 w'
    clear hi2
    obtain ⟨ny2, hny2⟩ : ∃ n, (listAt x 2).length = n := ⟨_, rfl⟩
    rw [hny2] at HYP2 E2
    clear hce2 hyp2 hmem2 hny2
    have HLOW5 := Lib.hid HB5.out.low
    have e2 := (HLOW5.out.cell hbw2).trans E2.out
    have hbr2 : b2 < V2.heap.size := Nat.lt_of_lt_of_le hbw2 HLOW5.out.size
    have CB3 : Hid (∀ U, Below V2.heap.size V2 U → Calls Tryz.prog 86 #[.agg #[.string (S q5), .slice da5 nd5 dc5], .string ⟨#[101, 108, 115, 101]⟩, .slice la2 ny2 lc2] U (RS U B sc)) := Lib.hid fun U hU => by
     have := rblock_any HLN.out HLS.out U _ q5 ds5 ⟨#[101, 108, 115, 101]⟩ (listAt x 2) _ (HB5.out.rw.below hU) (HYP2.out.below ((HLOW5.out.trans (hU.mono HLOW5.out.size)).mono hBw)) HGL2.out (by rw [HST5.out]; have := HLC0.out; rw [HSD.out] at this; exact this)
     rw [HST5.out] at this
     rw [HSD.out]
     exact this
    go_upto_region 30 with fail
    clear x0 x1 x2 x3 x4 x6
    obtain ⟨p0, p1, pf, pg, pl, pr0, pr1, prf, prg, prl⟩ := HB5.out.boxw
    refine wp_region_held_drew (S := fun w' => w'.cell? ⟨w.heap.size + 1, 5, none⟩ = some (.slice a4 n4 c4) ∧ w'.cell? ⟨b2, o2, none⟩ = some (.slice la2 ny2 lc2)) (by kernel_rfl) ?_ (fun hHeld => ?_)
    · exact ⟨x5, e2⟩
    refine tk 1 ?_
    refine tk 2 ?_
    refine tk 3 ?_
    refine tk 4 ?_
    try simp only [Act.put, List.getElem_toArray, List.getElem_cons_zero, List.getElem_cons_succ, List.setIfInBounds_toArray, List.set_cons_zero, List.set_cons_succ]
    refine wpAnyH_ready (rs := [0]) (by kernel_rfl) (by simp) ?_
    refine AllReadyH.cons rfl (fun K hK => ?_) AllReadyH.nil
    go_simp
    refine hK.out _ _ ?_ (fun hHeld => ?_)
    · exact ⟨x5, e2⟩
    clear hK K
    try simp only [Act.put, List.getElem_toArray, List.getElem_cons_zero, List.getElem_cons_succ, List.setIfInBounds_toArray, List.set_cons_zero, List.set_cons_succ]
    refine wpAnyH_ready (rs := [5]) (by kernel_rfl) (by simp) ?_
    refine AllReadyH.cons rfl (fun K hK => ?_) AllReadyH.nil
    go_simp
    go_at_call 86
    refine (CB3.out _ (Below.drew (Below.refl _ _))).mono ?_
    rintro e w6 hrs
    obtain ⟨dv6, q6, ds6, rfl, hs6, hr6, hb6⟩ := hrs.st
    obtain ⟨a6, c6, rfl⟩ := hr6.shape
    have HB6 := Lib.hid (((Below.refl _ _).drew).trans (show Below V2.heap.size V2.drew w6 from hb6))
    have HR6 := Lib.hid hr6
    have HS6 := Lib.hid hs6
    obtain ⟨n6, hn6⟩ : ∃ n, ds6.length = n := ⟨_, rfl⟩
    rw [hn6] at HR6 ⊢
    have HN6 := Lib.hid hn6
    clear hrs hr6 hs6 hb6 hn6
    have HK6 := Lib.hid (HB5.out.later HB6.out)
    clear p0 p1 pf pg pl pr0 pr1 prf prg prl
    obtain ⟨p0, p1, pf, pg, pl, pr0, pr1, prf, prg, prl⟩ := HK6.out.boxw
    go_wp2_with fail
    refine hK.out _ _ ?_ (fun hHeld => ?_)
    · exact ⟨(HB6.out.cell xl).trans x5, (HB6.out.cell hbr2).trans e2⟩
    clear hK K
    try simp only [Act.put, List.getElem_toArray, List.getElem_cons_zero, List.getElem_cons_succ, List.setIfInBounds_toArray, List.set_cons_zero, List.set_cons_succ]
    refine wpAnyH_ready (rs := [6]) (by kernel_rfl) (by simp) ?_
    refine AllReadyH.cons rfl (fun K hK => ?_) AllReadyH.nil
    go_simp
    refine hK.out _ _ ?_ (fun hHeld => ?_)
    · exact ⟨cell_far2 ((HB6.out.cell xl).trans x5) (by omega), cell_far2 ((HB6.out.cell hbr2).trans e2) hbg2⟩
    clear hK K
    try simp only [Act.put, List.getElem_toArray, List.getElem_cons_zero, List.getElem_cons_succ, List.setIfInBounds_toArray, List.set_cons_zero, List.set_cons_succ]
    refine wpAnyH_done (by kernel_rfl) ?_ _
    have HE6 := Lib.hid (HB5.out.putX HAK5.out HB6.out HR6.out HS6.out)
    clear p0 p1 pf pg pl pr0 pr1 prf prg prl
    clear hHeld
    go_wp2_with fail
    go_meet
    exact HE6.out
  · have g3 : ((n4 : Int) == 3) = false := by simp; omega
    have hd3 : decide (2 < n4) = false := by simp; omega
    have HSD : Hid (sc = sb) := Lib.hid (by rw [← HSC.out, hd3]; rfl)
    clear hd3 h3
    go_wp2_with fail
    go_meet
    rw [HSD.out]
    exact ⟨⟨_, q5, ds5, HB5.out, HST5.out⟩, HAK5.out⟩
 case rest =>
  clear HB5 HAK5 x0 x1 x2 x3 x4 x5 x6 xl
  obtain ⟨da7, nd7, dc7, q7, ds7, hb7, hst7, hnd7, hak7⟩ := hcut.open
  have HB7 := Lib.hid hb7
  have HST7 := Lib.hid hst7
  have HAK7 := Lib.hid hak7
  clear hb7 hst7 hnd7 hak7
  have HLC7 : Hid ((putS (stOf q7 ds7) [102, 105]).1.length ≤ lim) := Lib.hid (by rw [HST7.out]; exact HLC.out)
  obtain ⟨p0, p1, pf, pg, pl, pr0, pr1, prf, prg, prl⟩ := HB7.out.boxw
  have CP8 := Lib.hid (put_at B _ _ q7 ds7 ⟨#[102, 105]⟩ HB7.out.rw (put_len (s := stOf q7 ds7) (ds := ds7) rfl HLC7.out))
  go_wp2_with fail
  refine CP8.out.mono ?_
  rintro e w8 hrs
  obtain ⟨dv8, q8, ds8, rfl, hs8, hr8, hb8⟩ := hrs.st
  obtain ⟨a8, c8, rfl⟩ := hr8.shape
  have HB8 := Lib.hid (hb8)
  have HR8 := Lib.hid hr8
  have HS8 := Lib.hid hs8
  obtain ⟨n8, hn8⟩ : ∃ n, ds8.length = n := ⟨_, rfl⟩
  rw [hn8] at HR8 ⊢
  have HN8 := Lib.hid hn8
  clear hrs hr8 hs8 hb8 hn8
  have HK8 := Lib.hid (HB7.out.later HB8.out)
  clear p0 p1 pf pg pl pr0 pr1 prf prg prl
  obtain ⟨p0, p1, pf, pg, pl, pr0, pr1, prf, prg, prl⟩ := HK8.out.boxw
  go_upto_region 56 with fail
  have HE8 := Lib.hid (HB7.out.putX HAK7.out HB8.out HR8.out HS8.out)
  clear p0 p1 pf pg pl pr0 pr1 prf prg prl
  obtain ⟨V2, hV2⟩ : ∃ V2, V2 = (w8.setCell ⟨w.heap.size, 0, none⟩ (.string (S q8))).setCell ⟨w.heap.size, 1, none⟩ (.slice a8 n8 c8) := ⟨_, rfl⟩
  rw [← hV2] at HE8 ⊢
  clear hV2
  obtain ⟨da3, nd3, dc3, q3, ds3, hb3, hst3, hnd3, hak3⟩ := HE8.out.open
  have HB3 := Lib.hid hb3
  have HST3 := Lib.hid hst3
  have HAK3 := Lib.hid hak3
  clear hb3 hst3 hnd3 hak3
  obtain ⟨x0, x1, x2, x3, x4, x5, x6, xl⟩ := HAK3.out.box7
  have HQ3 : Hid (putS sc [102, 105] = stOf q3 ds3) := Lib.hid (by rw [HST3.out, HST7.out]; rfl)
  have HLR : Hid ((redirsS (levS d).1 (stOf q3 ds3) x.redirs true).1.length ≤ lim) := Lib.hid (by rw [← HQ3.out]; exact HLEN.out)
  have HLO9 := Lib.hid HB3.out.low
  have CR := Lib.hid (rredirs_any HT.out HB3.out.rw (HRD.out.imp (fun xs hs => hs.below (HLO9.out.mono hBw)) fun _ _ _ h => h.keep fun _ _ _ _ hs => hs.below (HLO9.out.mono hBw)) GRD.out true HLR.out)
  obtain ⟨p0, p1, pf, pg, pl, pr0, pr1, prf, prg, prl⟩ := HB3.out.boxw
  go_wp2_with fail
  refine CR.out.mono ?_
  rintro e w9 hrs
  obtain ⟨dv9, q9, ds9, rfl, hs9, hr9, hb9⟩ := hrs.st
  obtain ⟨a9, c9, rfl⟩ := hr9.shape
  have HB9 := Lib.hid (hb9)
  have HR9 := Lib.hid hr9
  have HS9 := Lib.hid hs9
  obtain ⟨n9, hn9⟩ : ∃ n, ds9.length = n := ⟨_, rfl⟩
  rw [hn9] at HR9 ⊢
  have HN9 := Lib.hid hn9
  clear hrs hr9 hs9 hb9 hn9
  clear p0 p1 pf pg pl pr0 pr1 prf prg prl
  have HKR := Lib.hid (HB3.out.later HB9.out)
  obtain ⟨z0, z1, zf, zg, zl, zr0, zr1, zrf, zrg, zrl⟩ := HKR.out.boxw
  go_wp2_with fail
  have HRS := Lib.hid (HB3.out.out2 HB9.out HR9.out ((congrArg (fun s => redirsS (levS d).1 s x.redirs true) HQ3.out).trans HS9.out))
  have HRB := Lib.hid (HB3.out.out2_res (dv' := .slice a9 n9 c9) (out' := q9) HB9.out)
  clear z0 z1 zf zg zl zr0 zr1 zrf zrg zrl
  obtain ⟨Z, hZ⟩ : ∃ Z, Z = ((w9.setCell ⟨w.heap.size + 2, 0, none⟩ (.string (S q9))).setCell ⟨w.heap.size + 2, 1, none⟩ (.slice a9 n9 c9)) := ⟨_, rfl⟩
  rw [← hZ] at HRS HRB
  have y0 := HRB.out.cell 0
  have y1 := HRB.out.cell 1
  simp at y0 y1
  try rw [← hZ]
  clear hZ
  refine bodyPost_ret (v := .agg #[.string (S q9), .slice a9 n9 c9]) (by simp [results, Tryz.results63, go_sem, y0, y1]) rfl HRS.out
end Go.Proofs.YtnackmnoldkihaaGreatDoor
