/-
  The document's writer: for.
-/
import Derived.Test.YtnackmnoldkihaaGreatDoorW37
set_option linter.unusedVariables false
set_option linter.unusedSimpArgs false
namespace Go.Proofs.YtnackmnoldkihaaGreatDoor
open Go.RowKit

set_option maxHeartbeats 8000000 in
set_option maxRecDepth 100000 in
theorem rnode_for {B d : Nat} (hT : RTextAt B d) (hLn : RLineAt B) (hLs : RListAtS B d) (hNd : ∀ d', d = d' + 1 → RNodeAtS B d') (W0 : World) (dv0 : Value) (out0 : List UInt8) (ds0 : List DocV) (x : Nd) (c : List Value) (h : RW W0 B dv0 out0 ds0) (hc : NdC W0 B d x c) (hg : nodeG (levG d).1 (levG d).2.1 (gnD d) x = true) (hk : x.kind = 9) (hlen : (redirsS (levS d).1 (putS (blockS (levS d).2.1 (lineS (wordsS (levS d).1 (putS (stOf out0 ds0) ([102, 111, 114, 32] ++ L x.name ++ [32, 105, 110])) x.words true)) [100, 111] (listAt x 0)) [100, 111, 110, 101]) x.redirs true).1.length ≤ lim) :
 Calls Tryz.prog 63 #[.agg #[.string (S out0), dv0], .agg c.toArray] W0 (RS W0 B (redirsS (levS d).1 (putS (blockS (levS d).2.1 (lineS (wordsS (levS d).1 (putS (stOf out0 ds0) ([102, 111, 114, 32] ++ L x.name ++ [32, 105, 110])) x.words true)) [100, 111] (listAt x 0)) [100, 111, 110, 101]) x.redirs true)) := by
 obtain ⟨w, hw⟩ : ∃ w, w = W0 := ⟨_, rfl⟩
 subst hw
 have hBw := h.2.2.2
 rw [nodeG, Bool.and_eq_true, nodeF, Bool.and_eq_true, Bool.and_eq_true, Bool.and_eq_true, Bool.and_eq_true, Bool.and_eq_true, Bool.and_eq_true] at hg
 obtain ⟨hkb, hsh, hfas, hfw, hfr, hfl, hfn, hfa⟩ := hg
 obtain ⟨a1, c1, a2, c2, a3, c3, a4, c4, a5, c5, rfl, hxz, ⟨hn1, hn2, hn3, hn4, hn5⟩, hAs, hWs, hRd, hLs0, hAr⟩ := hc.open
 obtain ⟨n1, hl1⟩ : ∃ n, x.assigns.length = n := ⟨_, rfl⟩
 obtain ⟨n2, hl2⟩ : ∃ n, x.words.length = n := ⟨_, rfl⟩
 obtain ⟨n3, hl3⟩ : ∃ n, x.redirs.length = n := ⟨_, rfl⟩
 obtain ⟨n4, hl4⟩ : ∃ n, x.lists.length = n := ⟨_, rfl⟩
 obtain ⟨n5, hl5⟩ : ∃ n, x.arms.length = n := ⟨_, rfl⟩
 rw [hl1] at hn1 hAs ⊢
 rw [hl2] at hn2 hWs ⊢
 rw [hl3] at hn3 hRd ⊢
 rw [hl4] at hn4 hLs0 ⊢
 rw [hl5] at hn5 hAr ⊢
 have HAS := Lib.hid hAs
 have HWS := Lib.hid hWs
 have HRD := Lib.hid hRd
 have HLI := Lib.hid hLs0
 have HARM := Lib.hid hAr
 have N1 := Lib.hid hl1
 have N2 := Lib.hid hl2
 have N3 := Lib.hid hl3
 have N4 := Lib.hid hl4
 have N5 := Lib.hid hl5
 have GAS := Lib.hid (List.all_eq_true.1 hfas)
 have GWS := Lib.hid (List.all_eq_true.1 hfw)
 have GRD := Lib.hid hfr
 have GLI := Lib.hid (List.all_eq_true.1 hfl)
 have GLN := Lib.hid (List.all_eq_true.1 hfn)
 have GAR := Lib.hid (List.all_eq_true.1 hfa)
 have GSH := Lib.hid hsh
 have GKB := Lib.hid hkb
 have HT := Lib.hid hT
 have HLN := Lib.hid hLn
 have HLS := Lib.hid hLs
 have HND := Lib.hid hNd
 have HK := Lib.hid hk
 obtain ⟨a9, c9, rfl⟩ := h.shape
 obtain ⟨n0, hn0⟩ : ∃ n, ds0.length = n := ⟨_, rfl⟩
 rw [hk]
 have HB0 := Lib.hid (BW.start2 h 64 #[.int .i64 9, .string x.name, .slice a1 n1 c1, .slice a2 n2 c2, .slice a3 n3 c3, .slice a4 n4 c4, .slice a5 n5 c5])
 rw [hn0] at HB0 ⊢
 obtain ⟨s0, hs0⟩ : ∃ s, stOf out0 ds0 = s := ⟨_, rfl⟩
 have HS0 := Lib.hid hs0
 rw [hs0] at hlen ⊢
 have HLEN := Lib.hid hlen
 clear hl1 hl2 hl3 hl4 hl5 hAs hWs hRd hLs0 hAr hfas hfw hfr hfl hfn hfa hsh hkb hT hLn hLs hNd hk h hc hn0 hs0 hlen
 have hn40 : 0 < n4 := by
  have h1 := GSH.out
  rw [shapeF, HK.out] at h1
  have h2 : 1 ≤ x.lists.length := of_decide_eq_true h1
  have := N4.out
  omega
 obtain ⟨b0, o0, la0, lc0, hi0, hbB0, hce0, hyp0, hmem0⟩ := list_at HLI.out (k := 0) (by rw [N4.out]; omega)
 have hbw0 := Nat.lt_of_lt_of_le hbB0 hBw
 have HYP0 : Hid (NdsIn w B d (listAt x 0) (.slice la0 (listAt x 0).length lc0)) := Lib.hid hyp0
 have HGL0 : Hid ((levG d).2.1 (listAt x 0) = true) := Lib.hid (GLI.out _ hmem0)
 have HGN0 : Hid ((listAt x 0).all (gnD d) = true) := Lib.hid (GLN.out _ hmem0)
 have E0 : Hid (w.cell? ⟨b0, o0, none⟩ = some (.slice la0 (listAt x 0).length lc0)) := Lib.hid hce0
 have hbg0 : b0 ≠ w.heap.size := by omega
 have hj0 : ∀ w' : World, (Instr.indexAt 61 (.slice a4 n4 c4) (.int .i64 0)).run Tryz.prog w' = .ok (.pointer (some ⟨b0, o0, none⟩)) w' := fun w' => hi0 w'
 clear hi0
 obtain ⟨ny0, hny0⟩ : ∃ n, (listAt x 0).length = n := ⟨_, rfl⟩
 rw [hny0] at HYP0 E0
 clear hce0 hyp0 hmem0 hny0
 obtain ⟨sp, hsp⟩ : ∃ s, putS s0 ([102, 111, 114, 32] ++ L x.name ++ [32, 105, 110]) = s := ⟨_, rfl⟩
 have HSP := Lib.hid hsp
 rw [hsp] at HLEN ⊢
 obtain ⟨sw, hsw⟩ : ∃ s, wordsS (levS d).1 sp x.words true = s := ⟨_, rfl⟩
 have HSW := Lib.hid hsw
 rw [hsw] at HLEN ⊢
 have HL3 : Hid ((putS (blockS (levS d).2.1 (lineS sw) [100, 111] (listAt x 0)) [100, 111, 110, 101]).1.length ≤ lim) := Lib.hid (Nat.le_trans (redirsS_grow (levS_grow d).1 _ _ _) HLEN.out)
 have HL2 : Hid ((blockS (levS d).2.1 (lineS sw) [100, 111] (listAt x 0)).1.length ≤ lim) := Lib.hid (Nat.le_trans (putS_grow _ _) HL3.out)
 have HL1 : Hid ((lineS sw).1.length ≤ lim) := Lib.hid (Nat.le_trans (blockS_grow (levS_grow d).2.1 _ _ _) HL2.out)
 have HL0 : Hid (sw.1.length ≤ lim) := Lib.hid (Nat.le_trans (lineS_grow _) HL1.out)
 have HLWT : Hid (∀ k, (wordsS (levS d).1 sp (x.words.take k) true).1.length ≤ lim) := Lib.hid fun k => Nat.le_trans (words_take_le (levS_grow d).1 _ _ _ k) (by rw [hsw]; exact HL0.out)
 have HLP : Hid (sp.1.length ≤ lim) := Lib.hid (HLWT.out 0)
 clear hsp hsw
 go_enter Tryz.func63, Tryz.ntmps63
 go_upto_region 1 with fail
 obtain ⟨V, hV⟩ : ∃ V, V = ((w.alloc (.cells #[.string (S out0), .slice a9 n0 c9] 87)).alloc (.cells #[.int .i64 9, .string x.name, .slice a1 n1 c1, .slice a2 n2 c2, .slice a3 n3 c3, .slice a4 n4 c4, .slice a5 n5 c5] 64)).alloc (.cells #[.string ⟨#[]⟩, .slice none 0 0] 87) := ⟨_, rfl⟩
 have HNB : Hid (Blk V (w.heap.size + 1) 64 #[.int .i64 9, .string x.name, .slice a1 n1 c1, .slice a2 n2 c2, .slice a3 n3 c3, .slice a4 n4 c4, .slice a5 n5 c5]) := Lib.hid (by rw [hV]; exact (Blk.at (by simp)).alloc _)
 rw [← hV] at HB0 ⊢
 clear hV
 have HX0 : Hid (InX w V B 64 #[.int .i64 9, .string x.name, .slice a1 n1 c1, .slice a2 n2 c2, .slice a3 n3 c3, .slice a4 n4 c4, .slice a5 n5 c5] s0) := Lib.hid ⟨⟨_, _, _, HB0.out, HS0.out⟩, HNB.out⟩
 have hLT : L (⟨#[102, 111, 114, 32]⟩ ++ x.name ++ ⟨#[32, 105, 110]⟩) = [102, 111, 114, 32] ++ L x.name ++ [32, 105, 110] := by simp [L_append]
 have CP : Hid (Calls Tryz.prog 83 #[.agg #[.string (S out0), .slice a9 n0 c9], .string (⟨#[102, 111, 114, 32]⟩ ++ x.name ++ ⟨#[32, 105, 110]⟩)] V (RS V B sp)) := Lib.hid (by
  have := put_at B V _ out0 ds0 (⟨#[102, 111, 114, 32]⟩ ++ x.name ++ ⟨#[32, 105, 110]⟩) HB0.out.rw (put_len (s := stOf out0 ds0) (ds := ds0) rfl (by rw [hLT, HS0.out, HSP.out]; exact HLP.out))
  rw [hLT, HS0.out, HSP.out] at this
  exact this)
 clear hLT
 obtain ⟨nc, hnc⟩ : ∃ nc : Array Value, nc = #[.int .i64 9, .string x.name, .slice a1 n1 c1, .slice a2 n2 c2, .slice a3 n3 c3, .slice a4 n4 c4, .slice a5 n5 c5] := ⟨_, rfl⟩
 have HNC := Lib.hid hnc
 have HNB2 : Hid (Blk V (w.heap.size + 1) 64 nc) := Lib.hid (by rw [hnc]; exact HNB.out)
 clear hnc HX0
 obtain ⟨x0, x1, x2, x3, x4, x5, x6, xl⟩ := HNB.out.box7
 obtain ⟨p0, p1, pf, pg, pl, pr0, pr1, prf, prg, prl⟩ := HB0.out.boxw
 go_wp2_with fail
 refine CP.out.mono ?_
 rintro e w11 hrs
 obtain ⟨dv11, q11, ds11, rfl, hs11, hr11, hb11⟩ := hrs.st
 obtain ⟨a11, c11, rfl⟩ := hr11.shape
 have HB11 := Lib.hid (hb11)
 have HR11 := Lib.hid hr11
 have HS11 := Lib.hid hs11
 obtain ⟨n11, hn11⟩ : ∃ n, ds11.length = n := ⟨_, rfl⟩
 rw [hn11] at HR11 ⊢
 have HN11 := Lib.hid hn11
 clear hrs hr11 hs11 hb11 hn11
 have HK11 := Lib.hid (HB0.out.later HB11.out)
 clear x0 x1 x2 x3 x4 x5 x6 xl HNB
 clear p0 p1 pf pg pl pr0 pr1 prf prg prl
 obtain ⟨p0, p1, pf, pg, pl, pr0, pr1, prf, prg, prl⟩ := HK11.out.boxw
 go_upto_region 38 with fail
 have HE11 := Lib.hid (HB0.out.putX HNB2.out HB11.out HR11.out HS11.out)
 clear p0 p1 pf pg pl pr0 pr1 prf prg prl
 obtain ⟨V2, hV2⟩ : ∃ V2, V2 = (w11.setCell ⟨w.heap.size, 0, none⟩ (.string (S q11))).setCell ⟨w.heap.size, 1, none⟩ (.slice a11 n11 c11) := ⟨_, rfl⟩
 rw [← hV2] at HE11 ⊢
 clear hV2
 go_wp2_with fail
 go_loopw [10] (fun i U => ∃ (k : Nat), k ≤ n2 ∧ i = .int .i64 k ∧ InX w U B 64 nc (wordsS (levS d).1 sp (x.words.take k) true)) (fun i _ => n2 - (intOf i).toNat)
 case atStart => exact ⟨0, Nat.zero_le _, rfl, HE11.out⟩
 case round =>
  clear CP HE11 HB11 HR11 HS11 HN11 HK11 HNB2 HB0
  obtain ⟨k, hk, rfl, hb⟩ := hrel
  obtain ⟨da12, nd12, dc12, q12, ds12, hb12, hst12, hnd12, hak12⟩ := hb.open
  have HB12 := Lib.hid hb12
  have HST12 := Lib.hid hst12
  have HAK12 := Lib.hid hak12
  clear hb12 hst12 hnd12 hak12
  have HX := Lib.hid (HNC.out ▸ HAK12.out)
  obtain ⟨x0, x1, x2, x3, x4, x5, x6, xl⟩ := HX.out.box7
  by_cases hlt : k < n2
  · obtain ⟨y, hy⟩ : ∃ y, x.words[k]? = .some y := ⟨_, List.getElem?_eq_getElem (by rw [N2.out]; exact hlt)⟩
    obtain ⟨b, o, c, hi, hbB, hce, ⟨yv, rfl, hyp⟩, _⟩ := HWS.out.at 59 41 Tryz.underlying59 (by kernel_rfl) hy
    obtain ⟨a6, c6, rfl, _⟩ := hyp.shape
    have hbw := Nat.lt_of_lt_of_le hbB hBw
    have HLO := Lib.hid HB12.out.low
    have e0 := (HLO.out.cell hbw).trans (hce 0 _ rfl)
    have hbr : b < wr.heap.size := Nat.lt_of_lt_of_le hbw HLO.out.size
    rw [Nat.add_zero] at e0
    have hbg : b ≠ w.heap.size := by omega
    have HGY := Lib.hid (GWS.out y (List.mem_of_getElem? hy))
    have HS : Hid (wordsS (levS d).1 sp (x.words.take (k + 1)) true = putS (stOf q12 ds12) ([32] ++ txtS d y)) := Lib.hid (by
     rw [take_snoc' hy, words_snoc, ← HST12.out, Bool.true_or, levS_word, nextS, cond_true, putS_put])
    have HLX : Hid ((putS (stOf q12 ds12) ([32] ++ txtS d y)).1.length ≤ lim) := Lib.hid (by rw [← HS.out]; exact HLWT.out (k + 1))
    have htl : (txtS d y).length ≤ lim := by
     have := HLX.out
     simp only [putS, List.length_append] at this
     omega
    have CT : Hid (∀ V, Below wr.heap.size wr V → Calls Tryz.prog 84 #[.slice a6 y.length c6] V fun e w' => e = .returned (.string (S (txtS d y))) ∧ Below V.heap.size V w') := Lib.hid fun V hV =>
     HT.out V _ _ (by have := hV.size; have := HLO.out.size; omega) (hyp.below ((HLO.out.trans (hV.mono HLO.out.size)).mono hBw)) HGY.out htl
    obtain ⟨ny, hny⟩ : ∃ t, y.length = t := ⟨_, rfl⟩
    rw [hny] at CT e0
    obtain ⟨tw, htw⟩ : ∃ t, txtS d y = t := ⟨_, rfl⟩
    rw [htw] at CT HLX HS htl
    unfold lim at htl
    have htz : (S tw).size ≤ 1099511627776 := htl
    have k1 : ∀ V : World, (Op.stringOp .add ⟨#[32]⟩ (S tw)).run Tryz.prog V = .ok (.string (⟨#[32]⟩ ++ S tw)) V := fun V => run_string_add_sum V _ _ (by simp; omega)
    have hLT : L (⟨#[32]⟩ ++ S tw) = [32] ++ tw := by simp [L_append, L_S]
    have CP : Hid (∀ V, Below wr.heap.size wr V → Calls Tryz.prog 83 #[.agg #[.string (S q12), .slice da12 nd12 dc12], .string (⟨#[32]⟩ ++ S tw)] V (RS V B (putS (stOf q12 ds12) ([32] ++ tw)))) := Lib.hid fun V hV => by
     have := put_at B V _ q12 ds12 (⟨#[32]⟩ ++ S tw) (HB12.out.rw.below hV) (put_len (s := stOf q12 ds12) (ds := ds12) rfl (by rw [hLT]; exact HLX.out))
     rwa [hLT] at this
    obtain ⟨tt, htt⟩ : ∃ t, (⟨#[32]⟩ ++ S tw : ByteArray) = t := ⟨_, rfl⟩
    rw [htt] at CP
    simp only [htt] at k1
    obtain ⟨st, hst⟩ : ∃ t, S tw = t := ⟨_, rfl⟩
    rw [hst] at CT
    simp only [hst] at k1
    clear hy hce hyp hny htw htt hst hLT htl htz HLX
    go_wp2_with fail
    obtain ⟨p0, p1, pf, pg, pl, pr0, pr1, prf, prg, prl⟩ := HB12.out.boxw
    clear x0 x1 x2 x4 x5 x6
    refine wp_region_held_drew (S := fun w' => w'.cell? ⟨w.heap.size + 1, 3, none⟩ = some (.slice a2 n2 c2) ∧ w'.cell? ⟨b, o, none⟩ = some (.slice a6 ny c6)) (by kernel_rfl) ?_ (fun hHeld => ?_)
    · exact ⟨x3, e0⟩
    refine tk 1 ?_
    refine tk 2 ?_
    refine tk 3 ?_
    refine tk 4 ?_
    refine tk 5 ?_
    try simp only [Act.put, List.getElem_toArray, List.getElem_cons_zero, List.getElem_cons_succ, List.setIfInBounds_toArray, List.set_cons_zero, List.set_cons_succ]
    refine wpAnyH_ready (rs := [0, 6]) (by kernel_rfl) (by simp) ?_
    refine AllReadyH.cons rfl (fun K hK => ?_) (AllReadyH.cons rfl (fun K hK => ?_) AllReadyH.nil)
    · go_simp
      refine hK.out _ _ ?_ (fun hHeld => ?_)
      · exact ⟨x3, e0⟩
      clear hK K
      try simp only [Act.put, List.getElem_toArray, List.getElem_cons_zero, List.getElem_cons_succ, List.setIfInBounds_toArray, List.set_cons_zero, List.set_cons_succ]
      refine wpAnyH_ready (rs := [6]) (by kernel_rfl) (by simp) ?_
      refine AllReadyH.cons rfl (fun K hK => ?_) AllReadyH.nil
      go_simp
      go_at_call 84
      refine (CT.out _ (Below.drew (Below.refl _ _))).mono ?_
      rintro e v1 ⟨rfl, hv1⟩
      have HBV : Hid (Below wr.heap.size wr v1) := Lib.hid (((Below.refl _ _).drew).trans (show Below wr.heap.size wr.drew v1 from hv1))
      clear hv1
      go_wp2_with fail
      refine hK.out _ _ ?_ (fun hHeld => ?_)
      · exact ⟨(HBV.out.cell xl).trans x3, (HBV.out.cell hbr).trans e0⟩
      clear hK K
      try simp only [Act.put, List.getElem_toArray, List.getElem_cons_zero, List.getElem_cons_succ, List.setIfInBounds_toArray, List.set_cons_zero, List.set_cons_succ]
      refine tk 7 ?_
      try simp only [Act.put, List.getElem_toArray, List.getElem_cons_zero, List.getElem_cons_succ, List.setIfInBounds_toArray, List.set_cons_zero, List.set_cons_succ]
      refine wpAnyH_ready (rs := [8]) (by kernel_rfl) (by simp) ?_
      refine AllReadyH.cons rfl (fun K hK => ?_) AllReadyH.nil
      go_simp
      go_at_call 83
      refine (CP.out _ HBV.out).mono ?_
      rintro e w13 hrs
      obtain ⟨dv13, q13, ds13, rfl, hs13, hr13, hb13⟩ := hrs.st
      obtain ⟨a13, c13, rfl⟩ := hr13.shape
      have HB13 := Lib.hid (HBV.out.trans (hb13.mono HBV.out.size))
      have HR13 := Lib.hid hr13
      have HS13 := Lib.hid hs13
      obtain ⟨n13, hn13⟩ : ∃ n, ds13.length = n := ⟨_, rfl⟩
      rw [hn13] at HR13 ⊢
      have HN13 := Lib.hid hn13
      clear hrs hr13 hs13 hb13 hn13
      have HK13 := Lib.hid (HB12.out.later HB13.out)
      clear p0 p1 pf pg pl pr0 pr1 prf prg prl
      obtain ⟨p0, p1, pf, pg, pl, pr0, pr1, prf, prg, prl⟩ := HK13.out.boxw
      go_wp2_with fail
      refine hK.out _ _ ?_ (fun hHeld => ?_)
      · exact ⟨(HB13.out.cell xl).trans x3, (HB13.out.cell hbr).trans e0⟩
      clear hK K
      try simp only [Act.put, List.getElem_toArray, List.getElem_cons_zero, List.getElem_cons_succ, List.setIfInBounds_toArray, List.set_cons_zero, List.set_cons_succ]
      refine wpAnyH_ready (rs := [9]) (by kernel_rfl) (by simp) ?_
      refine AllReadyH.cons rfl (fun K hK => ?_) AllReadyH.nil
      go_simp
      refine hK.out _ _ ?_ (fun hHeld => ?_)
      · exact ⟨cell_far2 ((HB13.out.cell xl).trans x3) (by omega), cell_far2 ((HB13.out.cell hbr).trans e0) hbg⟩
      clear hK K
      try simp only [Act.put, List.getElem_toArray, List.getElem_cons_zero, List.getElem_cons_succ, List.setIfInBounds_toArray, List.set_cons_zero, List.set_cons_succ]
      refine wpAnyH_done (by kernel_rfl) ?_ _
      have HE13 := Lib.hid (HB12.out.putX HAK12.out HB13.out HR13.out HS13.out)
      clear p0 p1 pf pg pl pr0 pr1 prf prg prl
      clear hHeld
      go_wp2_with fail
      go_roundw
      case rel => exact ⟨k + 1, by omega, by go_num, by rw [HS.out]; exact HE13.out⟩
      case measure => simp [intOf]; omega
    · go_simp
      go_at_call 84
      refine (CT.out _ (Below.drew (Below.refl _ _))).mono ?_
      rintro e v1 ⟨rfl, hv1⟩
      have HBV : Hid (Below wr.heap.size wr v1) := Lib.hid (((Below.refl _ _).drew).trans (show Below wr.heap.size wr.drew v1 from hv1))
      clear hv1
      go_wp2_with fail
      refine hK.out _ _ ?_ (fun hHeld => ?_)
      · exact ⟨(HBV.out.cell xl).trans x3, (HBV.out.cell hbr).trans e0⟩
      clear hK K
      try simp only [Act.put, List.getElem_toArray, List.getElem_cons_zero, List.getElem_cons_succ, List.setIfInBounds_toArray, List.set_cons_zero, List.set_cons_succ]
      refine tk 7 ?_
      try simp only [Act.put, List.getElem_toArray, List.getElem_cons_zero, List.getElem_cons_succ, List.setIfInBounds_toArray, List.set_cons_zero, List.set_cons_succ]
      have HKV := Lib.hid (HB12.out.later HBV.out)
      clear p0 p1 pf pg pl pr0 pr1 prf prg prl
      obtain ⟨p0, p1, pf, pg, pl, pr0, pr1, prf, prg, prl⟩ := HKV.out.boxw
      refine wpAnyH_ready (rs := [0]) (by kernel_rfl) (by simp) ?_
      refine AllReadyH.cons rfl (fun K hK => ?_) AllReadyH.nil
      go_simp
      refine hK.out _ _ ?_ (fun hHeld => ?_)
      · exact ⟨(HBV.out.cell xl).trans x3, (HBV.out.cell hbr).trans e0⟩
      clear hK K
      try simp only [Act.put, List.getElem_toArray, List.getElem_cons_zero, List.getElem_cons_succ, List.setIfInBounds_toArray, List.set_cons_zero, List.set_cons_succ]
      refine wpAnyH_ready (rs := [8]) (by kernel_rfl) (by simp) ?_
      refine AllReadyH.cons rfl (fun K hK => ?_) AllReadyH.nil
      go_simp
      go_at_call 83
      refine (CP.out _ HBV.out).mono ?_
      rintro e w13 hrs
      obtain ⟨dv13, q13, ds13, rfl, hs13, hr13, hb13⟩ := hrs.st
      obtain ⟨a13, c13, rfl⟩ := hr13.shape
      have HB13 := Lib.hid (HBV.out.trans (hb13.mono HBV.out.size))
      have HR13 := Lib.hid hr13
      have HS13 := Lib.hid hs13
      obtain ⟨n13, hn13⟩ : ∃ n, ds13.length = n := ⟨_, rfl⟩
      rw [hn13] at HR13 ⊢
      have HN13 := Lib.hid hn13
      clear hrs hr13 hs13 hb13 hn13
      have HK13 := Lib.hid (HB12.out.later HB13.out)
      clear p0 p1 pf pg pl pr0 pr1 prf prg prl
      obtain ⟨p0, p1, pf, pg, pl, pr0, pr1, prf, prg, prl⟩ := HK13.out.boxw
      go_wp2_with fail
      refine hK.out _ _ ?_ (fun hHeld => ?_)
      · exact ⟨(HB13.out.cell xl).trans x3, (HB13.out.cell hbr).trans e0⟩
      clear hK K
      try simp only [Act.put, List.getElem_toArray, List.getElem_cons_zero, List.getElem_cons_succ, List.setIfInBounds_toArray, List.set_cons_zero, List.set_cons_succ]
      refine wpAnyH_ready (rs := [9]) (by kernel_rfl) (by simp) ?_
      refine AllReadyH.cons rfl (fun K hK => ?_) AllReadyH.nil
      go_simp
      refine hK.out _ _ ?_ (fun hHeld => ?_)
      · exact ⟨cell_far2 ((HB13.out.cell xl).trans x3) (by omega), cell_far2 ((HB13.out.cell hbr).trans e0) hbg⟩
      clear hK K
      try simp only [Act.put, List.getElem_toArray, List.getElem_cons_zero, List.getElem_cons_succ, List.setIfInBounds_toArray, List.set_cons_zero, List.set_cons_succ]
      refine wpAnyH_done (by kernel_rfl) ?_ _
      have HE13 := Lib.hid (HB12.out.putX HAK12.out HB13.out HR13.out HS13.out)
      clear p0 p1 pf pg pl pr0 pr1 prf prg prl
      clear hHeld
      go_wp2_with fail
      go_roundw
      case rel => exact ⟨k + 1, by omega, by go_num, by rw [HS.out]; exact HE13.out⟩
      case measure => simp [intOf]; omega
  · have HSE : Hid (sw = stOf q12 ds12) := Lib.hid (by rw [HST12.out, List.take_of_length_le (by rw [N2.out]; omega), HSW.out])
    have HLO := Lib.hid HB12.out.low
    have HL1' : Hid ((lineS (stOf q12 ds12)).1.length ≤ lim) := Lib.hid (by rw [← HSE.out]; exact HL1.out)
    have CL := Lib.hid (fun U (hU : Below wr.heap.size wr U) => HLN.out U _ q12 ds12 (HB12.out.rw.below hU) HL1'.out)
    go_upto_region 42 with fail
    have e0 := (HLO.out.cell hbw0).trans E0.out
    have hbr0 : b0 < wr.heap.size := Nat.lt_of_lt_of_le hbw0 HLO.out.size
    clear x0 x1 x2 x3 x4 x6
    obtain ⟨p0, p1, pf, pg, pl, pr0, pr1, prf, prg, prl⟩ := HB12.out.boxw
    refine wp_region_held_drew (S := fun w' => w'.cell? ⟨w.heap.size + 1, 5, none⟩ = some (.slice a4 n4 c4) ∧ w'.cell? ⟨b0, o0, none⟩ = some (.slice la0 ny0 lc0)) (by kernel_rfl) ?_ (fun hHeld => ?_)
    · exact ⟨x5, e0⟩
    refine tk 2 ?_
    refine tk 3 ?_
    refine tk 4 ?_
    refine tk 5 ?_
    try simp only [Act.put, List.getElem_toArray, List.getElem_cons_zero, List.getElem_cons_succ, List.setIfInBounds_toArray, List.set_cons_zero, List.set_cons_succ]
    refine wpAnyH_ready (rs := [0]) (by kernel_rfl) (by simp) ?_
    refine AllReadyH.cons rfl (fun K hK => ?_) AllReadyH.nil
    go_simp
    refine hK.out _ _ ?_ (fun hHeld => ?_)
    · exact ⟨x5, e0⟩
    clear hK K
    try simp only [Act.put, List.getElem_toArray, List.getElem_cons_zero, List.getElem_cons_succ, List.setIfInBounds_toArray, List.set_cons_zero, List.set_cons_succ]
    refine wpAnyH_ready (rs := [1]) (by kernel_rfl) (by simp) ?_
    refine AllReadyH.cons rfl (fun K hK => ?_) AllReadyH.nil
    go_simp
    go_at_call 64
    refine (CL.out _ (Below.drew (Below.refl _ _))).mono ?_
    rintro e w13 hrs
    obtain ⟨dv13, q13, ds13, rfl, hs13, hr13, hb13⟩ := hrs.st
    obtain ⟨a13, c13, rfl⟩ := hr13.shape
    have HB13 := Lib.hid (((Below.refl _ _).drew).trans (show Below wr.heap.size wr.drew w13 from hb13))
    have HR13 := Lib.hid hr13
    have HS13 := Lib.hid hs13
    obtain ⟨n13, hn13⟩ : ∃ n, ds13.length = n := ⟨_, rfl⟩
    rw [hn13] at HR13 ⊢
    have HN13 := Lib.hid hn13
    clear hrs hr13 hs13 hb13 hn13
    go_wp2_with fail
    refine hK.out _ _ ?_ (fun hHeld => ?_)
    · exact ⟨(HB13.out.cell xl).trans x5, (HB13.out.cell hbr0).trans e0⟩
    clear hK K
    try simp only [Act.put, List.getElem_toArray, List.getElem_cons_zero, List.getElem_cons_succ, List.setIfInBounds_toArray, List.set_cons_zero, List.set_cons_succ]
    have HLN13 : Hid (lineS sw = stOf q13 ds13) := Lib.hid (by rw [HSE.out, HS13.out])
    have HL2' : Hid ((blockS (levS d).2.1 (stOf q13 ds13) (L ⟨#[100, 111]⟩) (listAt x 0)).1.length ≤ lim) := Lib.hid (by rw [← HLN13.out]; exact HL2.out)
    have CB := Lib.hid (rblock_any HLN.out HLS.out w13 _ q13 ds13 ⟨#[100, 111]⟩ (listAt x 0) _ HR13.out (HYP0.out.below ((HLO.out.trans (HB13.out.mono HLO.out.size)).mono hBw)) HGL0.out HL2'.out)
    refine wpAnyH_ready (rs := [6]) (by kernel_rfl) (by simp) ?_
    refine AllReadyH.cons rfl (fun K hK => ?_) AllReadyH.nil
    go_simp
    go_at_call 86
    refine CB.out.mono ?_
    rintro e w14 hrs
    obtain ⟨dv14, q14, ds14, rfl, hs14, hr14, hb14⟩ := hrs.st
    obtain ⟨a14, c14, rfl⟩ := hr14.shape
    have HB14 := Lib.hid (HB13.out.trans (hb14.mono HB13.out.size))
    have HR14 := Lib.hid hr14
    have HS14 := Lib.hid hs14
    obtain ⟨n14, hn14⟩ : ∃ n, ds14.length = n := ⟨_, rfl⟩
    rw [hn14] at HR14 ⊢
    have HN14 := Lib.hid hn14
    clear hrs hr14 hs14 hb14 hn14
    have HBL : Hid (blockS (levS d).2.1 (lineS sw) [100, 111] (listAt x 0) = stOf q14 ds14) := Lib.hid (by rw [HLN13.out]; exact HS14.out)
    go_wp2_with fail
    refine hK.out _ _ ?_ (fun hHeld => ?_)
    · exact ⟨(HB14.out.cell xl).trans x5, (HB14.out.cell hbr0).trans e0⟩
    clear hK K
    try simp only [Act.put, List.getElem_toArray, List.getElem_cons_zero, List.getElem_cons_succ, List.setIfInBounds_toArray, List.set_cons_zero, List.set_cons_succ]
    have CP := Lib.hid (put_at B w14 _ q14 ds14 ⟨#[100, 111, 110, 101]⟩ HR14.out (put_len (s := stOf q14 ds14) (ds := ds14) rfl (by rw [← HBL.out]; exact HL3.out)))
    refine wpAnyH_ready (rs := [7]) (by kernel_rfl) (by simp) ?_
    refine AllReadyH.cons rfl (fun K hK => ?_) AllReadyH.nil
    go_simp
    go_at_call 83
    refine CP.out.mono ?_
    rintro e w15 hrs
    obtain ⟨dv15, q15, ds15, rfl, hs15, hr15, hb15⟩ := hrs.st
    obtain ⟨a15, c15, rfl⟩ := hr15.shape
    have HB15 := Lib.hid (HB14.out.trans (hb15.mono HB14.out.size))
    have HR15 := Lib.hid hr15
    have HS15 := Lib.hid hs15
    obtain ⟨n15, hn15⟩ : ∃ n, ds15.length = n := ⟨_, rfl⟩
    rw [hn15] at HR15 ⊢
    have HN15 := Lib.hid hn15
    clear hrs hr15 hs15 hb15 hn15
    have HK15 := Lib.hid (HB12.out.later HB15.out)
    clear p0 p1 pf pg pl pr0 pr1 prf prg prl
    obtain ⟨p0, p1, pf, pg, pl, pr0, pr1, prf, prg, prl⟩ := HK15.out.boxw
    go_wp2_with fail
    refine hK.out _ _ ?_ (fun hHeld => ?_)
    · exact ⟨(HB15.out.cell xl).trans x5, (HB15.out.cell hbr0).trans e0⟩
    clear hK K
    try simp only [Act.put, List.getElem_toArray, List.getElem_cons_zero, List.getElem_cons_succ, List.setIfInBounds_toArray, List.set_cons_zero, List.set_cons_succ]
    refine wpAnyH_ready (rs := [8]) (by kernel_rfl) (by simp) ?_
    refine AllReadyH.cons rfl (fun K hK => ?_) AllReadyH.nil
    go_simp
    refine hK.out _ _ ?_ (fun hHeld => ?_)
    · exact ⟨cell_far2 ((HB15.out.cell xl).trans x5) (by omega), cell_far2 ((HB15.out.cell hbr0).trans e0) hbg0⟩
    clear hK K
    try simp only [Act.put, List.getElem_toArray, List.getElem_cons_zero, List.getElem_cons_succ, List.setIfInBounds_toArray, List.set_cons_zero, List.set_cons_succ]
    refine wpAnyH_done (by kernel_rfl) ?_ _
    have HE15 := Lib.hid (HB12.out.putX HAK12.out HB15.out HR15.out HS15.out)
    clear p0 p1 pf pg pl pr0 pr1 prf prg prl
    clear hHeld
    obtain ⟨V2, hV2⟩ : ∃ V2, V2 = (w15.setCell ⟨w.heap.size, 0, none⟩ (.string (S q15))).setCell ⟨w.heap.size, 1, none⟩ (.slice a15 n15 c15) := ⟨_, rfl⟩
    rw [← hV2] at HE15 ⊢
    clear hV2
    clear x5 xl e0 hbr0
    obtain ⟨da16, nd16, dc16, q16, ds16, hb16, hst16, hnd16, hak16⟩ := HE15.out.open
    have HB16 := Lib.hid hb16
    have HST16 := Lib.hid hst16
    have HAK16 := Lib.hid hak16
    clear hb16 hst16 hnd16 hak16
    have HX16 := Lib.hid (HNC.out ▸ HAK16.out)
    obtain ⟨x0, x1, x2, x3, x4, x5, x6, xl⟩ := HX16.out.box7
    have HQ : Hid (putS (blockS (levS d).2.1 (lineS sw) [100, 111] (listAt x 0)) [100, 111, 110, 101] = stOf q16 ds16) := Lib.hid (by rw [HBL.out, HST16.out]; rfl)
    have HLR : Hid ((redirsS (levS d).1 (stOf q16 ds16) x.redirs true).1.length ≤ lim) := Lib.hid (by rw [← HQ.out]; exact HLEN.out)
    have HLO9 := Lib.hid HB16.out.low
    have CR := Lib.hid (rredirs_any HT.out HB16.out.rw (HRD.out.imp (fun xs hs => hs.below (HLO9.out.mono hBw)) fun _ _ _ h => h.keep fun _ _ _ _ hs => hs.below (HLO9.out.mono hBw)) GRD.out true HLR.out)
    obtain ⟨p0, p1, pf, pg, pl, pr0, pr1, prf, prg, prl⟩ := HB16.out.boxw
    go_wp2_with fail
    refine CR.out.mono ?_
    rintro e w9 hrs
    obtain ⟨dv9, q9, ds9, rfl, hs9, hr9, hb9⟩ := hrs.st
    obtain ⟨a9, c9, rfl⟩ := hr9.shape
    have HB9 := Lib.hid (hb9)
    have HR9 := Lib.hid hr9
    have HS9 := Lib.hid hs9
    obtain ⟨n9, hn9⟩ : ∃ n, ds9.length = n := ⟨_, rfl⟩
    rw [hn9] at HR9 ⊢
    have HN9 := Lib.hid hn9
    clear hrs hr9 hs9 hb9 hn9
    clear p0 p1 pf pg pl pr0 pr1 prf prg prl
    have HKR := Lib.hid (HB16.out.later HB9.out)
    obtain ⟨z0, z1, zf, zg, zl, zr0, zr1, zrf, zrg, zrl⟩ := HKR.out.boxw
    go_wp2_with fail
    have HRS := Lib.hid (HB16.out.out2 HB9.out HR9.out ((congrArg (fun s => redirsS (levS d).1 s x.redirs true) HQ.out).trans HS9.out))
    have HRB := Lib.hid (HB16.out.out2_res (dv' := .slice a9 n9 c9) (out' := q9) HB9.out)
    clear z0 z1 zf zg zl zr0 zr1 zrf zrg zrl
    obtain ⟨Z, hZ⟩ : ∃ Z, Z = ((w9.setCell ⟨w.heap.size + 2, 0, none⟩ (.string (S q9))).setCell ⟨w.heap.size + 2, 1, none⟩ (.slice a9 n9 c9)) := ⟨_, rfl⟩
    rw [← hZ] at HRS HRB
    have y0 := HRB.out.cell 0
    have y1 := HRB.out.cell 1
    simp at y0 y1
    try rw [← hZ]
    clear hZ
    refine bodyPost_ret (v := .agg #[.string (S q9), .slice a9 n9 c9]) (by simp [results, Tryz.results63, go_sem, y0, y1]) rfl HRS.out
end Go.Proofs.YtnackmnoldkihaaGreatDoor
