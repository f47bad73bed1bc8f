/-
  The document's writer at every depth.
-/
import Derived.Test.YtnackmnoldkihaaGreatDoorW37
import Derived.Test.YtnackmnoldkihaaGreatDoorW38
import Derived.Test.YtnackmnoldkihaaGreatDoorW39
import Derived.Test.YtnackmnoldkihaaGreatDoorW41
import Derived.Test.YtnackmnoldkihaaGreatDoorW42
set_option linter.unusedVariables false
set_option linter.unusedSimpArgs false
/-
  The document's writer: case.
-/
namespace Go.Proofs.YtnackmnoldkihaaGreatDoor
open Go.RowKit

theorem arms_take_le (d : Nat) (l : List Ar) (s : St) (k : Nat) : ((l.take k).foldl (armS (levS d).1 (levS d).2.1) s).1.length ≤ (l.foldl (armS (levS d).1 (levS d).2.1) s).1.length := by
 have h := fold_grow (f := armS (levS d).1 (levS d).2.1) (armS_grow (levS_grow d).1 (levS_grow d).2.1) (l.drop k) ((l.take k).foldl (armS (levS d).1 (levS d).2.1) s)
 rwa [← List.foldl_append, List.take_append_drop] at h
set_option maxHeartbeats 8000000 in
set_option maxRecDepth 100000 in
theorem rnode_case {B d : Nat} (hT : RTextAt B d) (hLn : RLineAt B) (hLs : RListAtS B d) (hNd : ∀ d', d = d' + 1 → RNodeAtS B d') (W0 : World) (dv0 : Value) (out0 : List UInt8) (ds0 : List DocV) (x : Nd) (c : List Value) (h : RW W0 B dv0 out0 ds0) (hc : NdC W0 B d x c) (hg : nodeG (levG d).1 (levG d).2.1 (gnD d) x = true) (hk : x.kind = 10) (hlen : (redirsS (levS d).1 (caseS (levS d).1 (levS d).2.1 (stOf out0 ds0) x) x.redirs true).1.length ≤ lim) :
 Calls Tryz.prog 63 #[.agg #[.string (S out0), dv0], .agg c.toArray] W0 (RS W0 B (redirsS (levS d).1 (caseS (levS d).1 (levS d).2.1 (stOf out0 ds0) x) x.redirs true)) := by
 obtain ⟨w, hw⟩ : ∃ w, w = W0 := ⟨_, rfl⟩
 subst hw
 have hBw := h.2.2.2
 rw [nodeG, Bool.and_eq_true, nodeF, Bool.and_eq_true, Bool.and_eq_true, Bool.and_eq_true, Bool.and_eq_true, Bool.and_eq_true, Bool.and_eq_true] at hg
 obtain ⟨hkb, hsh, hfas, hfw, hfr, hfl, hfn, hfa⟩ := hg
 obtain ⟨a1, c1, a2, c2, a3, c3, a4, c4, a5, c5, rfl, hxz, ⟨hn1, hn2, hn3, hn4, hn5⟩, hAs, hWs, hRd, hLs0, hAr⟩ := hc.open
 obtain ⟨n1, hl1⟩ : ∃ n, x.assigns.length = n := ⟨_, rfl⟩
 obtain ⟨n2, hl2⟩ : ∃ n, x.words.length = n := ⟨_, rfl⟩
 obtain ⟨n3, hl3⟩ : ∃ n, x.redirs.length = n := ⟨_, rfl⟩
 obtain ⟨n4, hl4⟩ : ∃ n, x.lists.length = n := ⟨_, rfl⟩
 obtain ⟨n5, hl5⟩ : ∃ n, x.arms.length = n := ⟨_, rfl⟩
 rw [hl1] at hn1 hAs ⊢
 rw [hl2] at hn2 hWs ⊢
 rw [hl3] at hn3 hRd ⊢
 rw [hl4] at hn4 hLs0 ⊢
 rw [hl5] at hn5 hAr ⊢
 have HAS := Lib.hid hAs
 have HWS := Lib.hid hWs
 have HRD := Lib.hid hRd
 have HLI := Lib.hid hLs0
 have HARM := Lib.hid hAr
 have N1 := Lib.hid hl1
 have N2 := Lib.hid hl2
 have N3 := Lib.hid hl3
 have N4 := Lib.hid hl4
 have N5 := Lib.hid hl5
 have GAS := Lib.hid (List.all_eq_true.1 hfas)
 have GWS := Lib.hid (List.all_eq_true.1 hfw)
 have GRD := Lib.hid hfr
 have GLI := Lib.hid (List.all_eq_true.1 hfl)
 have GLN := Lib.hid (List.all_eq_true.1 hfn)
 have GAR := Lib.hid (List.all_eq_true.1 hfa)
 have GSH := Lib.hid hsh
 have GKB := Lib.hid hkb
 have HT := Lib.hid hT
 have HLN := Lib.hid hLn
 have HLS := Lib.hid hLs
 have HND := Lib.hid hNd
 have HK := Lib.hid hk
 obtain ⟨a9, c9, rfl⟩ := h.shape
 obtain ⟨n0, hn0⟩ : ∃ n, ds0.length = n := ⟨_, rfl⟩
 rw [hk]
 have HB0 := Lib.hid (BW.start2 h 64 #[.int .i64 10, .string x.name, .slice a1 n1 c1, .slice a2 n2 c2, .slice a3 n3 c3, .slice a4 n4 c4, .slice a5 n5 c5])
 rw [hn0] at HB0 ⊢
 obtain ⟨s0, hs0⟩ : ∃ s, stOf out0 ds0 = s := ⟨_, rfl⟩
 have HS0 := Lib.hid hs0
 rw [hs0] at hlen ⊢
 have HLEN := Lib.hid hlen
 clear hl1 hl2 hl3 hl4 hl5 hAs hWs hRd hLs0 hAr hfas hfw hfr hfl hfn hfa hsh hkb hT hLn hLs hNd hk h hc hn0 hs0 hlen
 obtain ⟨y, ly, hwl⟩ : ∃ y l, x.words = y :: l := by
  have h1 := GSH.out
  rw [shapeF, HK.out] at h1
  cases hq : x.words with
  | nil => rw [hq] at h1; cases h1
  | cons y l => exact ⟨y, l, rfl⟩
 obtain ⟨b, o, c, hi0, hbB, hce, ⟨yv, rfl, hyp⟩, _⟩ := HWS.out.at 59 41 Tryz.underlying59 (by kernel_rfl) (k := 0) (show x.words[0]? = .some y by rw [hwl]; rfl)
 obtain ⟨a6, c6, rfl, _⟩ := hyp.shape
 have hj0 : ∀ w' : World, (Instr.indexAt 59 (.slice a2 n2 c2) (.int .i64 0)).run Tryz.prog w' = .ok (.pointer (some ⟨b, o, none⟩)) w' := fun w' => hi0 w'
 have hbw := Nat.lt_of_lt_of_le hbB hBw
 have hbg : b ≠ w.heap.size := by omega
 have E0 := Lib.hid (hce 0 _ rfl)
 rw [Nat.add_zero] at E0
 have HGY := Lib.hid (GWS.out y (by rw [hwl]; simp))
 have HYP := Lib.hid hyp
 obtain ⟨sl, hsl⟩ : ∃ s, lineS (putS s0 ([99, 97, 115, 101, 32] ++ txtS d y ++ [32, 105, 110])) = s := ⟨_, rfl⟩
 have hcs : caseS (levS d).1 (levS d).2.1 s0 x = putS (x.arms.foldl (armS (levS d).1 (levS d).2.1) sl) [101, 115, 97, 99] := by
  rw [caseS, ← hsl, firstW, hwl]
  simp only [levS_word, putS_put]
 rw [hcs] at HLEN ⊢
 obtain ⟨sa, hsa⟩ : ∃ s, x.arms.foldl (armS (levS d).1 (levS d).2.1) sl = s := ⟨_, rfl⟩
 have HSA := Lib.hid hsa
 rw [hsa] at HLEN ⊢
 have HL3 : Hid ((putS sa [101, 115, 97, 99]).1.length ≤ lim) := Lib.hid (Nat.le_trans (redirsS_grow (levS_grow d).1 _ _ _) HLEN.out)
 have HL2 : Hid (sa.1.length ≤ lim) := Lib.hid (Nat.le_trans (putS_grow _ _) HL3.out)
 have HLAT : Hid (∀ k, ((x.arms.take k).foldl (armS (levS d).1 (levS d).2.1) sl).1.length ≤ lim) := Lib.hid fun k => Nat.le_trans (arms_take_le d x.arms sl k) (by rw [hsa]; exact HL2.out)
 have HL1 : Hid ((lineS (putS s0 ([99, 97, 115, 101, 32] ++ txtS d y ++ [32, 105, 110]))).1.length ≤ lim) := Lib.hid (by rw [hsl]; exact HLAT.out 0)
 have HL0 : Hid ((putS s0 ([99, 97, 115, 101, 32] ++ txtS d y ++ [32, 105, 110])).1.length ≤ lim) := Lib.hid (Nat.le_trans (lineS_grow _) HL1.out)
 have HSL := Lib.hid hsl
 have htl : (txtS d y).length ≤ lim := by
  have := HL0.out
  simp only [putS, List.length_append] at this
  omega
 clear hsl hsa hcs hce hyp hwl hi0
 obtain ⟨nc, hnc⟩ : ∃ nc : Array Value, nc = #[.int .i64 10, .string x.name, .slice a1 n1 c1, .slice a2 n2 c2, .slice a3 n3 c3, .slice a4 n4 c4, .slice a5 n5 c5] := ⟨_, rfl⟩
 have HNC := Lib.hid hnc
 go_enter Tryz.func63, Tryz.ntmps63
 go_upto_region 1 with fail
 obtain ⟨V, hV⟩ : ∃ V, V = ((w.alloc (.cells #[.string (S out0), .slice a9 n0 c9] 87)).alloc (.cells #[.int .i64 10, .string x.name, .slice a1 n1 c1, .slice a2 n2 c2, .slice a3 n3 c3, .slice a4 n4 c4, .slice a5 n5 c5] 64)).alloc (.cells #[.string ⟨#[]⟩, .slice none 0 0] 87) := ⟨_, rfl⟩
 have HNB : Hid (Blk V (w.heap.size + 1) 64 #[.int .i64 10, .string x.name, .slice a1 n1 c1, .slice a2 n2 c2, .slice a3 n3 c3, .slice a4 n4 c4, .slice a5 n5 c5]) := Lib.hid (by rw [hV]; exact (Blk.at (by simp)).alloc _)
 rw [← hV] at HB0 ⊢
 clear hV
 have HX0 : Hid (InX w V B 64 #[.int .i64 10, .string x.name, .slice a1 n1 c1, .slice a2 n2 c2, .slice a3 n3 c3, .slice a4 n4 c4, .slice a5 n5 c5] s0) := Lib.hid ⟨⟨_, _, _, HB0.out, HS0.out⟩, HNB.out⟩
 have HNB2 : Hid (Blk V (w.heap.size + 1) 64 nc) := Lib.hid (by rw [hnc]; exact HNB.out)
 clear hnc HX0
 have HLO := Lib.hid HB0.out.low
 have CT : Hid (∀ U, Below V.heap.size V U → Calls Tryz.prog 84 #[.slice a6 y.length c6] U fun e w' => e = .returned (.string (S (txtS d y))) ∧ Below U.heap.size U w') := Lib.hid fun U hU =>
  HT.out U _ _ (by have := hU.size; have := HLO.out.size; omega) (HYP.out.below ((HLO.out.trans (hU.mono HLO.out.size)).mono hBw)) HGY.out htl
 obtain ⟨ny, hny⟩ : ∃ t, y.length = t := ⟨_, rfl⟩
 rw [hny] at CT E0
 obtain ⟨tw, htw⟩ : ∃ t, txtS d y = t := ⟨_, rfl⟩
 rw [htw] at CT HL1 HL0 HSL htl
 unfold lim at htl
 have htz : (S tw).size ≤ 1099511627776 := htl
 have k1 : ∀ V : World, (Op.stringOp .add ⟨#[99, 97, 115, 101, 32]⟩ (S tw)).run Tryz.prog V = .ok (.string (⟨#[99, 97, 115, 101, 32]⟩ ++ S tw)) V := fun V => run_string_add_sum V _ _ (by simp; omega)
 have k2 : ∀ V : World, (Op.stringOp .add (⟨#[99, 97, 115, 101, 32]⟩ ++ S tw) ⟨#[32, 105, 110]⟩).run Tryz.prog V = .ok (.string (⟨#[99, 97, 115, 101, 32]⟩ ++ S tw ++ ⟨#[32, 105, 110]⟩)) V := fun V => run_string_add_sum V _ _ (by simp; omega)
 have hLT : L (⟨#[99, 97, 115, 101, 32]⟩ ++ S tw ++ ⟨#[32, 105, 110]⟩) = [99, 97, 115, 101, 32] ++ tw ++ [32, 105, 110] := by simp [L_append, L_S]
 have CP : Hid (∀ U, Below V.heap.size V U → Calls Tryz.prog 83 #[.agg #[.string (S out0), .slice a9 n0 c9], .string (⟨#[99, 97, 115, 101, 32]⟩ ++ S tw ++ ⟨#[32, 105, 110]⟩)] U (RS U B (putS s0 ([99, 97, 115, 101, 32] ++ tw ++ [32, 105, 110])))) := Lib.hid fun U hU => by
  have := put_at B U _ out0 ds0 (⟨#[99, 97, 115, 101, 32]⟩ ++ S tw ++ ⟨#[32, 105, 110]⟩) (HB0.out.rw.below hU) (put_len (s := stOf out0 ds0) (ds := ds0) rfl (by rw [hLT, HS0.out]; exact HL0.out))
  rw [hLT, HS0.out] at this
  exact this
 obtain ⟨tt, htt⟩ : ∃ t, (⟨#[99, 97, 115, 101, 32]⟩ ++ S tw ++ ⟨#[32, 105, 110]⟩ : ByteArray) = t := ⟨_, rfl⟩
 rw [htt] at CP
 simp only [htt] at k2
 obtain ⟨st, hst⟩ : ∃ t, S tw = t := ⟨_, rfl⟩
 rw [hst] at CT
 simp only [hst] at k1 k2
 clear hny htw htt hst hLT htl htz HL0
 obtain ⟨x0, x1, x2, x3, x4, x5, x6, xl⟩ := HNB.out.box7
 go_upto_region 44 with fail
 have e0 := (HLO.out.cell hbw).trans E0.out
 have hbr : b < V.heap.size := Nat.lt_of_lt_of_le hbw HLO.out.size
 clear x0 x1 x2 x4 x5 x6
 obtain ⟨p0, p1, pf, pg, pl, pr0, pr1, prf, prg, prl⟩ := HB0.out.boxw
 go_cut [] (fun U => InX w U B 64 nc sl)
 case first =>
  refine wp_region_held_drew (S := fun w' => w'.cell? ⟨w.heap.size + 1, 3, none⟩ = some (.slice a2 n2 c2) ∧ w'.cell? ⟨b, o, none⟩ = some (.slice a6 ny c6)) (by kernel_rfl) ?_ (fun hHeld => ?_)
  · exact ⟨x3, e0⟩
  refine tk 1 ?_
  refine tk 2 ?_
  refine tk 3 ?_
  refine tk 4 ?_
  try simp only [Act.put, List.getElem_toArray, List.getElem_cons_zero, List.getElem_cons_succ, List.setIfInBounds_toArray, List.set_cons_zero, List.set_cons_succ]
  refine wpAnyH_ready (rs := [0, 5]) (by kernel_rfl) (by simp) ?_
  refine AllReadyH.cons rfl (fun K hK => ?_) (AllReadyH.cons rfl (fun K hK => ?_) AllReadyH.nil)
  · go_simp
    refine hK.out _ _ ?_ (fun hHeld => ?_)
    · exact ⟨x3, e0⟩
    clear hK K
    try simp only [Act.put, List.getElem_toArray, List.getElem_cons_zero, List.getElem_cons_succ, List.setIfInBounds_toArray, List.set_cons_zero, List.set_cons_succ]
    refine wpAnyH_ready (rs := [5]) (by kernel_rfl) (by simp) ?_
    refine AllReadyH.cons rfl (fun K hK => ?_) AllReadyH.nil
    go_simp
    go_at_call 84
    refine (CT.out _ (Below.drew (Below.refl _ _))).mono ?_
    rintro e v1 ⟨rfl, hv1⟩
    have HBV : Hid (Below V.heap.size V v1) := Lib.hid (((Below.refl _ _).drew).trans (show Below V.heap.size V.drew v1 from hv1))
    clear hv1
    go_wp2_with fail
    refine hK.out _ _ ?_ (fun hHeld => ?_)
    · exact ⟨(HBV.out.cell xl).trans x3, (HBV.out.cell hbr).trans e0⟩
    clear hK K
    try simp only [Act.put, List.getElem_toArray, List.getElem_cons_zero, List.getElem_cons_succ, List.setIfInBounds_toArray, List.set_cons_zero, List.set_cons_succ]
    refine tk 6 ?_
    refine tk 7 ?_
    try simp only [Act.put, List.getElem_toArray, List.getElem_cons_zero, List.getElem_cons_succ, List.setIfInBounds_toArray, List.set_cons_zero, List.set_cons_succ]
    refine wpAnyH_ready (rs := [8]) (by kernel_rfl) (by simp) ?_
    refine AllReadyH.cons rfl (fun K hK => ?_) AllReadyH.nil
    go_simp
    go_at_call 83
    refine (CP.out _ HBV.out).mono ?_
    rintro e w13 hrs
    obtain ⟨dv13, q13, ds13, rfl, hs13, hr13, hb13⟩ := hrs.st
    obtain ⟨a13, c13, rfl⟩ := hr13.shape
    have HB13 := Lib.hid (HBV.out.trans (hb13.mono HBV.out.size))
    have HR13 := Lib.hid hr13
    have HS13 := Lib.hid hs13
    obtain ⟨n13, hn13⟩ : ∃ n, ds13.length = n := ⟨_, rfl⟩
    rw [hn13] at HR13 ⊢
    have HN13 := Lib.hid hn13
    clear hrs hr13 hs13 hb13 hn13
    go_wp2_with fail
    refine hK.out _ _ ?_ (fun hHeld => ?_)
    · exact ⟨(HB13.out.cell xl).trans x3, (HB13.out.cell hbr).trans e0⟩
    clear hK K
    try simp only [Act.put, List.getElem_toArray, List.getElem_cons_zero, List.getElem_cons_succ, List.setIfInBounds_toArray, List.set_cons_zero, List.set_cons_succ]
    rw [HS13.out] at HL1 HSL
    have CL := Lib.hid (HLN.out w13 _ q13 ds13 HR13.out HL1.out)
    refine wpAnyH_ready (rs := [9]) (by kernel_rfl) (by simp) ?_
    refine AllReadyH.cons rfl (fun K hK => ?_) AllReadyH.nil
    go_simp
    go_at_call 64
    refine CL.out.mono ?_
    rintro e w14 hrs
    obtain ⟨dv14, q14, ds14, rfl, hs14, hr14, hb14⟩ := hrs.st
    obtain ⟨a14, c14, rfl⟩ := hr14.shape
    have HB14 := Lib.hid (HB13.out.trans (hb14.mono HB13.out.size))
    have HR14 := Lib.hid hr14
    have HS14 := Lib.hid hs14
    obtain ⟨n14, hn14⟩ : ∃ n, ds14.length = n := ⟨_, rfl⟩
    rw [hn14] at HR14 ⊢
    have HN14 := Lib.hid hn14
    clear hrs hr14 hs14 hb14 hn14
    have HK14 := Lib.hid (HB0.out.later HB14.out)
    clear p0 p1 pf pg pl pr0 pr1 prf prg prl
    obtain ⟨p0, p1, pf, pg, pl, pr0, pr1, prf, prg, prl⟩ := HK14.out.boxw
    go_wp2_with fail
    refine hK.out _ _ ?_ (fun hHeld => ?_)
    · exact ⟨(HB14.out.cell xl).trans x3, (HB14.out.cell hbr).trans e0⟩
    clear hK K
    try simp only [Act.put, List.getElem_toArray, List.getElem_cons_zero, List.getElem_cons_succ, List.setIfInBounds_toArray, List.set_cons_zero, List.set_cons_succ]
    refine wpAnyH_ready (rs := [10]) (by kernel_rfl) (by simp) ?_
    refine AllReadyH.cons rfl (fun K hK => ?_) AllReadyH.nil
    go_simp
    refine hK.out _ _ ?_ (fun hHeld => ?_)
    · exact ⟨cell_far2 ((HB14.out.cell xl).trans x3) (by omega), cell_far2 ((HB14.out.cell hbr).trans e0) hbg⟩
    clear hK K
    try simp only [Act.put, List.getElem_toArray, List.getElem_cons_zero, List.getElem_cons_succ, List.setIfInBounds_toArray, List.set_cons_zero, List.set_cons_succ]
    refine wpAnyH_done (by kernel_rfl) ?_ _
    have HE14 := Lib.hid (HB0.out.putX HNB2.out HB14.out HR14.out HS14.out)
    clear p0 p1 pf pg pl pr0 pr1 prf prg prl
    clear hHeld
    go_wp2_with fail
    go_meet
    rw [← HSL.out]
    exact HE14.out
  · go_simp
    go_at_call 84
    refine (CT.out _ (Below.drew (Below.refl _ _))).mono ?_
    rintro e v1 ⟨rfl, hv1⟩
    have HBV : Hid (Below V.heap.size V v1) := Lib.hid (((Below.refl _ _).drew).trans (show Below V.heap.size V.drew v1 from hv1))
    clear hv1
    go_wp2_with fail
    refine hK.out _ _ ?_ (fun hHeld => ?_)
    · exact ⟨(HBV.out.cell xl).trans x3, (HBV.out.cell hbr).trans e0⟩
    clear hK K
    try simp only [Act.put, List.getElem_toArray, List.getElem_cons_zero, List.getElem_cons_succ, List.setIfInBounds_toArray, List.set_cons_zero, List.set_cons_succ]
    refine tk 6 ?_
    refine tk 7 ?_
    try simp only [Act.put, List.getElem_toArray, List.getElem_cons_zero, List.getElem_cons_succ, List.setIfInBounds_toArray, List.set_cons_zero, List.set_cons_succ]
    have HKV := Lib.hid (HB0.out.later HBV.out)
    clear p0 p1 pf pg pl pr0 pr1 prf prg prl
    obtain ⟨p0, p1, pf, pg, pl, pr0, pr1, prf, prg, prl⟩ := HKV.out.boxw
    refine wpAnyH_ready (rs := [0]) (by kernel_rfl) (by simp) ?_
    refine AllReadyH.cons rfl (fun K hK => ?_) AllReadyH.nil
    go_simp
    refine hK.out _ _ ?_ (fun hHeld => ?_)
    · exact ⟨(HBV.out.cell xl).trans x3, (HBV.out.cell hbr).trans e0⟩
    clear hK K
    try simp only [Act.put, List.getElem_toArray, List.getElem_cons_zero, List.getElem_cons_succ, List.setIfInBounds_toArray, List.set_cons_zero, List.set_cons_succ]
    refine wpAnyH_ready (rs := [8]) (by kernel_rfl) (by simp) ?_
    refine AllReadyH.cons rfl (fun K hK => ?_) AllReadyH.nil
    go_simp
    go_at_call 83
    refine (CP.out _ HBV.out).mono ?_
    rintro e w13 hrs
    obtain ⟨dv13, q13, ds13, rfl, hs13, hr13, hb13⟩ := hrs.st
    obtain ⟨a13, c13, rfl⟩ := hr13.shape
    have HB13 := Lib.hid (HBV.out.trans (hb13.mono HBV.out.size))
    have HR13 := Lib.hid hr13
    have HS13 := Lib.hid hs13
    obtain ⟨n13, hn13⟩ : ∃ n, ds13.length = n := ⟨_, rfl⟩
    rw [hn13] at HR13 ⊢
    have HN13 := Lib.hid hn13
    clear hrs hr13 hs13 hb13 hn13
    go_wp2_with fail
    refine hK.out _ _ ?_ (fun hHeld => ?_)
    · exact ⟨(HB13.out.cell xl).trans x3, (HB13.out.cell hbr).trans e0⟩
    clear hK K
    try simp only [Act.put, List.getElem_toArray, List.getElem_cons_zero, List.getElem_cons_succ, List.setIfInBounds_toArray, List.set_cons_zero, List.set_cons_succ]
    rw [HS13.out] at HL1 HSL
    have CL := Lib.hid (HLN.out w13 _ q13 ds13 HR13.out HL1.out)
    refine wpAnyH_ready (rs := [9]) (by kernel_rfl) (by simp) ?_
    refine AllReadyH.cons rfl (fun K hK => ?_) AllReadyH.nil
    go_simp
    go_at_call 64
    refine CL.out.mono ?_
    rintro e w14 hrs
    obtain ⟨dv14, q14, ds14, rfl, hs14, hr14, hb14⟩ := hrs.st
    obtain ⟨a14, c14, rfl⟩ := hr14.shape
    have HB14 := Lib.hid (HB13.out.trans (hb14.mono HB13.out.size))
    have HR14 := Lib.hid hr14
    have HS14 := Lib.hid hs14
    obtain ⟨n14, hn14⟩ : ∃ n, ds14.length = n := ⟨_, rfl⟩
    rw [hn14] at HR14 ⊢
    have HN14 := Lib.hid hn14
    clear hrs hr14 hs14 hb14 hn14
    have HK14 := Lib.hid (HB0.out.later HB14.out)
    clear p0 p1 pf pg pl pr0 pr1 prf prg prl
    obtain ⟨p0, p1, pf, pg, pl, pr0, pr1, prf, prg, prl⟩ := HK14.out.boxw
    go_wp2_with fail
    refine hK.out _ _ ?_ (fun hHeld => ?_)
    · exact ⟨(HB14.out.cell xl).trans x3, (HB14.out.cell hbr).trans e0⟩
    clear hK K
    try simp only [Act.put, List.getElem_toArray, List.getElem_cons_zero, List.getElem_cons_succ, List.setIfInBounds_toArray, List.set_cons_zero, List.set_cons_succ]
    refine wpAnyH_ready (rs := [10]) (by kernel_rfl) (by simp) ?_
    refine AllReadyH.cons rfl (fun K hK => ?_) AllReadyH.nil
    go_simp
    refine hK.out _ _ ?_ (fun hHeld => ?_)
    · exact ⟨cell_far2 ((HB14.out.cell xl).trans x3) (by omega), cell_far2 ((HB14.out.cell hbr).trans e0) hbg⟩
    clear hK K
    try simp only [Act.put, List.getElem_toArray, List.getElem_cons_zero, List.getElem_cons_succ, List.setIfInBounds_toArray, List.set_cons_zero, List.set_cons_succ]
    refine wpAnyH_done (by kernel_rfl) ?_ _
    have HE14 := Lib.hid (HB0.out.putX HNB2.out HB14.out HR14.out HS14.out)
    clear p0 p1 pf pg pl pr0 pr1 prf prg prl
    clear hHeld
    go_wp2_with fail
    go_meet
    rw [← HSL.out]
    exact HE14.out
 case rest =>
  have HC := Lib.hid hcut
  clear p0 p1 pf pg pl pr0 pr1 prf prg prl
  clear hcut x3 xl e0 hbr k1 k2 CT CP HB0 HNB HNB2 hj0 HYP E0 HLO
  go_wp2_with fail
  go_loopw [11] (fun i U => ∃ (k : Nat), k ≤ n5 ∧ i = .int .i64 k ∧ InX w U B 64 nc ((x.arms.take k).foldl (armS (levS d).1 (levS d).2.1) sl)) (fun i _ => n5 - (intOf i).toNat)
  case atStart => exact ⟨0, Nat.zero_le _, rfl, HC.out⟩
  case round =>
   clear HC
   obtain ⟨k, hk, rfl, hb⟩ := hrel
   obtain ⟨da12, nd12, dc12, q12, ds12, hb12, hst12, hnd12, hak12⟩ := hb.open
   have HB12 := Lib.hid hb12
   have HST12 := Lib.hid hst12
   have HAK12 := Lib.hid hak12
   clear hb12 hst12 hnd12 hak12
   have HX := Lib.hid (HNC.out ▸ HAK12.out)
   obtain ⟨x0, x1, x2, x3, x4, x5, x6, xl⟩ := HX.out.box7
   by_cases hlt : k < n5
   · obtain ⟨am, hy⟩ : ∃ y, x.arms[k]? = .some y := ⟨_, List.getElem?_eq_getElem (by rw [N5.out]; exact hlt)⟩
     obtain ⟨b1, o1, c, hi1, hbB1, hce1, hAC, _⟩ := HARM.out.at 62 92 Tryz.underlying62 (by kernel_rfl) hy
     have HAC := Lib.hid hAC
     obtain ⟨wv, bv, rfl, _⟩ := hAC
     have hga := GAR.out am (List.mem_of_getElem? hy)
     rw [Bool.and_eq_true] at hga
     have hbw1 := Nat.lt_of_lt_of_le hbB1 hBw
     have HLO := Lib.hid HB12.out.low
     have e1 := (HLO.out.cell hbw1).trans (hce1 0 _ rfl)
     have e2 := (HLO.out.cell hbw1).trans (hce1 1 _ rfl)
     have hbr1 : b1 < wr.heap.size := Nat.lt_of_lt_of_le hbw1 HLO.out.size
     rw [Nat.add_zero] at e1
     have hbg1 : b1 ≠ w.heap.size := by omega
     have HS : Hid ((x.arms.take (k + 1)).foldl (armS (levS d).1 (levS d).2.1) sl = armS (levS d).1 (levS d).2.1 (stOf q12 ds12) am) := Lib.hid (by
      rw [take_snoc' hy, List.foldl_append, ← HST12.out]; rfl)
     have HLX : Hid ((armS (levS d).1 (levS d).2.1 (stOf q12 ds12) am).1.length ≤ lim) := Lib.hid (by rw [← HS.out]; exact HLAT.out (k + 1))
     have CA : Hid (∀ U, Below wr.heap.size wr U → _) := Lib.hid fun U (hU : Below wr.heap.size wr U) => rarm_any HT.out HLN.out HLS.out U _ q12 ds12 am _ (HB12.out.rw.below hU) (show ArC U B d am [wv, bv] by
      obtain ⟨wv', bv', e, h1, h2⟩ := HAC.out
      have hbl := (HLO.out.trans (hU.mono HLO.out.size)).mono hBw
      exact ⟨wv', bv', e, h1.imp (fun _ hs => hs.below hbl) fun _ _ _ ⟨v, e, h⟩ => ⟨v, e, h.below hbl⟩, h2.below hbl⟩) hga.1 hga.2 HLX.out
     clear hy hce1 hga HLX
     go_upto_region 48 with fail
     clear x0 x1 x2 x3 x4 x5
     obtain ⟨p0, p1, pf, pg, pl, pr0, pr1, prf, prg, prl⟩ := HB12.out.boxw
     refine wp_region_held_drew (S := fun w' => w'.cell? ⟨w.heap.size + 1, 6, none⟩ = some (.slice a5 n5 c5) ∧ w'.cell? ⟨b1, o1, none⟩ = some wv ∧ w'.cell? ⟨b1, o1 + 1, none⟩ = some bv) (by kernel_rfl) ?_ (fun hHeld => ?_)
     · exact ⟨x6, e1, e2⟩
     refine tk 1 ?_
     refine tk 2 ?_
     refine tk 3 ?_
     refine tk 4 ?_
     refine tk 5 ?_
     try simp only [Act.put, List.getElem_toArray, List.getElem_cons_zero, List.getElem_cons_succ, List.setIfInBounds_toArray, List.set_cons_zero, List.set_cons_succ]
     refine wpAnyH_ready (rs := [0]) (by kernel_rfl) (by simp) ?_
     refine AllReadyH.cons rfl (fun K hK => ?_) AllReadyH.nil
     go_simp
     refine hK.out _ _ ?_ (fun hHeld => ?_)
     · exact ⟨x6, e1, e2⟩
     clear hK K
     try simp only [Act.put, List.getElem_toArray, List.getElem_cons_zero, List.getElem_cons_succ, List.setIfInBounds_toArray, List.set_cons_zero, List.set_cons_succ]
     refine wpAnyH_ready (rs := [6]) (by kernel_rfl) (by simp) ?_
     refine AllReadyH.cons rfl (fun K hK => ?_) AllReadyH.nil
     go_simp
     go_at_call 87
     refine (CA.out _ (Below.drew (Below.refl _ _))).mono ?_
     rintro e w13 hrs
     obtain ⟨dv13, q13, ds13, rfl, hs13, hr13, hb13⟩ := hrs.st
     obtain ⟨a13, c13, rfl⟩ := hr13.shape
     have HB13 := Lib.hid (((Below.refl _ _).drew).trans (show Below wr.heap.size wr.drew w13 from hb13))
     have HR13 := Lib.hid hr13
     have HS13 := Lib.hid hs13
     obtain ⟨n13, hn13⟩ : ∃ n, ds13.length = n := ⟨_, rfl⟩
     rw [hn13] at HR13 ⊢
     have HN13 := Lib.hid hn13
     clear hrs hr13 hs13 hb13 hn13
     have HK13 := Lib.hid (HB12.out.later HB13.out)
     clear p0 p1 pf pg pl pr0 pr1 prf prg prl
     obtain ⟨p0, p1, pf, pg, pl, pr0, pr1, prf, prg, prl⟩ := HK13.out.boxw
     go_wp2_with fail
     refine hK.out _ _ ?_ (fun hHeld => ?_)
     · exact ⟨(HB13.out.cell xl).trans x6, (HB13.out.cell hbr1).trans e1, (HB13.out.cell hbr1).trans e2⟩
     clear hK K
     try simp only [Act.put, List.getElem_toArray, List.getElem_cons_zero, List.getElem_cons_succ, List.setIfInBounds_toArray, List.set_cons_zero, List.set_cons_succ]
     refine wpAnyH_ready (rs := [7]) (by kernel_rfl) (by simp) ?_
     refine AllReadyH.cons rfl (fun K hK => ?_) AllReadyH.nil
     go_simp
     refine hK.out _ _ ?_ (fun hHeld => ?_)
     · exact ⟨cell_far2 ((HB13.out.cell xl).trans x6) (by omega), cell_far2 ((HB13.out.cell hbr1).trans e1) hbg1, cell_far2 ((HB13.out.cell hbr1).trans e2) hbg1⟩
     clear hK K
     try simp only [Act.put, List.getElem_toArray, List.getElem_cons_zero, List.getElem_cons_succ, List.setIfInBounds_toArray, List.set_cons_zero, List.set_cons_succ]
     refine wpAnyH_done (by kernel_rfl) ?_ _
     have HE13 := Lib.hid (HB12.out.putX HAK12.out HB13.out HR13.out HS13.out)
     clear p0 p1 pf pg pl pr0 pr1 prf prg prl
     clear hHeld
     go_wp2_with fail
     go_roundw
     case rel => exact ⟨k + 1, by omega, by go_num, by rw [HS.out]; exact HE13.out⟩
     case measure => simp [intOf]; omega
   · have HSE : Hid (sa = stOf q12 ds12) := Lib.hid (by rw [HST12.out, List.take_of_length_le (by rw [N5.out]; omega), HSA.out])
     have HL3' : Hid ((putS (stOf q12 ds12) [101, 115, 97, 99]).1.length ≤ lim) := Lib.hid (by rw [← HSE.out]; exact HL3.out)
     obtain ⟨p0, p1, pf, pg, pl, pr0, pr1, prf, prg, prl⟩ := HB12.out.boxw
     have CP15 := Lib.hid (put_at B _ _ q12 ds12 ⟨#[101, 115, 97, 99]⟩ HB12.out.rw (put_len (s := stOf q12 ds12) (ds := ds12) rfl HL3'.out))
     go_wp2_with fail
     refine CP15.out.mono ?_
     rintro e w15 hrs
     obtain ⟨dv15, q15, ds15, rfl, hs15, hr15, hb15⟩ := hrs.st
     obtain ⟨a15, c15, rfl⟩ := hr15.shape
     have HB15 := Lib.hid (hb15)
     have HR15 := Lib.hid hr15
     have HS15 := Lib.hid hs15
     obtain ⟨n15, hn15⟩ : ∃ n, ds15.length = n := ⟨_, rfl⟩
     rw [hn15] at HR15 ⊢
     have HN15 := Lib.hid hn15
     clear hrs hr15 hs15 hb15 hn15
     have HK15 := Lib.hid (HB12.out.later HB15.out)
     clear p0 p1 pf pg pl pr0 pr1 prf prg prl
     obtain ⟨p0, p1, pf, pg, pl, pr0, pr1, prf, prg, prl⟩ := HK15.out.boxw
     go_upto_region 56 with fail
     have HE15 := Lib.hid (HB12.out.putX HAK12.out HB15.out HR15.out HS15.out)
     clear p0 p1 pf pg pl pr0 pr1 prf prg prl
     obtain ⟨V2, hV2⟩ : ∃ V2, V2 = (w15.setCell ⟨w.heap.size, 0, none⟩ (.string (S q15))).setCell ⟨w.heap.size, 1, none⟩ (.slice a15 n15 c15) := ⟨_, rfl⟩
     rw [← hV2] at HE15 ⊢
     clear hV2
     obtain ⟨da16, nd16, dc16, q16, ds16, hb16, hst16, hnd16, hak16⟩ := HE15.out.open
     have HB16 := Lib.hid hb16
     have HST16 := Lib.hid hst16
     have HAK16 := Lib.hid hak16
     clear hb16 hst16 hnd16 hak16
     clear x0 x1 x2 x3 x4 x5 x6 xl
     have HX16 := Lib.hid (HNC.out ▸ HAK16.out)
     obtain ⟨x0, x1, x2, x3, x4, x5, x6, xl⟩ := HX16.out.box7
     have HQ : Hid (putS sa [101, 115, 97, 99] = stOf q16 ds16) := Lib.hid (by rw [HSE.out, HST16.out]; rfl)
     have HLR : Hid ((redirsS (levS d).1 (stOf q16 ds16) x.redirs true).1.length ≤ lim) := Lib.hid (by rw [← HQ.out]; exact HLEN.out)
     have HLO9 := Lib.hid HB16.out.low
     have CR := Lib.hid (rredirs_any HT.out HB16.out.rw (HRD.out.imp (fun xs hs => hs.below (HLO9.out.mono hBw)) fun _ _ _ h => h.keep fun _ _ _ _ hs => hs.below (HLO9.out.mono hBw)) GRD.out true HLR.out)
     obtain ⟨p0, p1, pf, pg, pl, pr0, pr1, prf, prg, prl⟩ := HB16.out.boxw
     go_wp2_with fail
     refine CR.out.mono ?_
     rintro e w9 hrs
     obtain ⟨dv9, q9, ds9, rfl, hs9, hr9, hb9⟩ := hrs.st
     obtain ⟨a9, c9, rfl⟩ := hr9.shape
     have HB9 := Lib.hid (hb9)
     have HR9 := Lib.hid hr9
     have HS9 := Lib.hid hs9
     obtain ⟨n9, hn9⟩ : ∃ n, ds9.length = n := ⟨_, rfl⟩
     rw [hn9] at HR9 ⊢
     have HN9 := Lib.hid hn9
     clear hrs hr9 hs9 hb9 hn9
     clear p0 p1 pf pg pl pr0 pr1 prf prg prl
     have HKR := Lib.hid (HB16.out.later HB9.out)
     obtain ⟨z0, z1, zf, zg, zl, zr0, zr1, zrf, zrg, zrl⟩ := HKR.out.boxw
     go_wp2_with fail
     have HRS := Lib.hid (HB16.out.out2 HB9.out HR9.out ((congrArg (fun s => redirsS (levS d).1 s x.redirs true) HQ.out).trans HS9.out))
     have HRB := Lib.hid (HB16.out.out2_res (dv' := .slice a9 n9 c9) (out' := q9) HB9.out)
     clear z0 z1 zf zg zl zr0 zr1 zrf zrg zrl
     obtain ⟨Z, hZ⟩ : ∃ Z, Z = ((w9.setCell ⟨w.heap.size + 2, 0, none⟩ (.string (S q9))).setCell ⟨w.heap.size + 2, 1, none⟩ (.slice a9 n9 c9)) := ⟨_, rfl⟩
     rw [← hZ] at HRS HRB
     have y0 := HRB.out.cell 0
     have y1 := HRB.out.cell 1
     simp at y0 y1
     try rw [← hZ]
     clear hZ
     refine bodyPost_ret (v := .agg #[.string (S q9), .slice a9 n9 c9]) (by simp [results, Tryz.results63, go_sem, y0, y1]) rfl HRS.out
end Go.Proofs.YtnackmnoldkihaaGreatDoor
namespace Go.Proofs.YtnackmnoldkihaaGreatDoor
open Go.RowKit

set_option maxHeartbeats 1000000 in
set_option maxRecDepth 100000 in
theorem rlist_nil (B : Nat) (w : World) (dv0 : Value) (out0 : List UInt8) (ds0 : List DocV) (a : Option Addr) (cap : Nat) (h : RW w B dv0 out0 ds0) :
 Calls Tryz.prog 50 #[.agg #[.string (S out0), dv0], .slice a 0 cap] w (RS w B (stOf out0 ds0)) := by
 obtain ⟨a9, c9, rfl⟩ := h.shape
 have HB0 := Lib.hid (BW.start1 h)
 obtain ⟨n0, hn0⟩ : ∃ n, ds0.length = n := ⟨_, rfl⟩
 rw [hn0] at HB0 ⊢
 clear h hn0
 go_enter Tryz.func50, Tryz.ntmps50
 go_upto_region 1 with fail
 obtain ⟨V, hV⟩ : ∃ V, V = (w.alloc (.cells #[.string (S out0), .slice a9 n0 c9] 87)).alloc (.cells #[.string ⟨#[]⟩, .slice none 0 0] 87) := ⟨_, rfl⟩
 rw [← hV] at HB0 ⊢
 clear hV
 go_wp2_with fail
 refine wp_loop_rounds 1 ?_
 rw [rounds_succ]
 obtain ⟨z0, z1, zf, zg, zl, zr0, zr1, zrf, zrg, zrl⟩ := HB0.out.boxw
 go_wp2_with fail
 have HRS := Lib.hid (HB0.out.back rfl)
 have HRB := Lib.hid HB0.out.back_res
 clear z0 z1 zf zg zl zr0 zr1 zrf zrg zrl
 obtain ⟨Z, hZ⟩ : ∃ Z, Z = ((V.setCell ⟨w.heap.size + 1, 0, none⟩ (.string (S out0))).setCell ⟨w.heap.size + 1, 1, none⟩ (.slice a9 n0 c9)) := ⟨_, rfl⟩
 rw [← hZ] at HRS HRB
 have y0 := HRB.out.cell 0
 have y1 := HRB.out.cell 1
 simp at y0 y1
 try rw [← hZ]
 clear hZ
 refine bodyPost_ret (v := .agg #[.string (S out0), (.slice a9 n0 c9)]) (by simp [results, Tryz.results50, go_sem, y0, y1]) rfl HRS.out
theorem rline (B : Nat) : RLineAt B := fun _ _ _ _ h hlen => rline_any h hlen
theorem node_k1 {d : Nat} {s : St} {x : Nd} (hk : x.kind = 1) : nodeS (levS d).1 (levS d).2.1 (ndD d) s x = simpleS (levS d).1 s x := by
 simp only [nodeS, bodyS, compS, hk]
 rfl
theorem node_k2 {d : Nat} {s : St} {x : Nd} (hk : x.kind = 2) : nodeS (levS d).1 (levS d).2.1 (ndD d) s x = redirsS (levS d).1 (joinS (ndD d) (L (signB 2)) s x.lists false) x.redirs true := by
 simp only [nodeS, bodyS, compS, hk]
 rfl
theorem node_k3 {d : Nat} {s : St} {x : Nd} (hk : x.kind = 3) : nodeS (levS d).1 (levS d).2.1 (ndD d) s x = redirsS (levS d).1 (joinS (ndD d) (L (signB 3)) s x.lists false) x.redirs true := by
 simp only [nodeS, bodyS, compS, hk]
 rfl
theorem node_k4 {d : Nat} {s : St} {x : Nd} (hk : x.kind = 4) : nodeS (levS d).1 (levS d).2.1 (ndD d) s x = redirsS (levS d).1 (joinS (ndD d) (L (signB 4)) s x.lists false) x.redirs true := by
 simp only [nodeS, bodyS, compS, hk]
 rfl
theorem node_k5 {d : Nat} {s : St} {x : Nd} (hk : x.kind = 5) : nodeS (levS d).1 (levS d).2.1 (ndD d) s x = redirsS (levS d).1 (oneS (ndD d) (putS s [33, 32]) (listAt x 0)) x.redirs true := by
 simp only [nodeS, bodyS, compS, hk]
 rfl
theorem node_k6 {d : Nat} {s : St} {x : Nd} (hk : x.kind = 6) : nodeS (levS d).1 (levS d).2.1 (ndD d) s x = redirsS (levS d).1 (putS (bif decide (2 < x.lists.length) then blockS (levS d).2.1 (blockS (levS d).2.1 (blockS (levS d).2.1 s [105, 102] (listAt x 0)) [116, 104, 101, 110] (listAt x 1)) [101, 108, 115, 101] (listAt x 2) else blockS (levS d).2.1 (blockS (levS d).2.1 s [105, 102] (listAt x 0)) [116, 104, 101, 110] (listAt x 1)) [102, 105]) x.redirs true := by
 simp only [nodeS, bodyS, compS, hk]
 rfl
theorem node_k7 {d : Nat} {s : St} {x : Nd} (hk : x.kind = 7) : nodeS (levS d).1 (levS d).2.1 (ndD d) s x = redirsS (levS d).1 (putS (blockS (levS d).2.1 (blockS (levS d).2.1 s [119, 104, 105, 108, 101] (listAt x 0)) [100, 111] (listAt x 1)) [100, 111, 110, 101]) x.redirs true := by
 simp only [nodeS, bodyS, compS, hk]
 rfl
theorem node_k8 {d : Nat} {s : St} {x : Nd} (hk : x.kind = 8) : nodeS (levS d).1 (levS d).2.1 (ndD d) s x = redirsS (levS d).1 (putS (blockS (levS d).2.1 (blockS (levS d).2.1 s [117, 110, 116, 105, 108] (listAt x 0)) [100, 111] (listAt x 1)) [100, 111, 110, 101]) x.redirs true := by
 simp only [nodeS, bodyS, compS, hk]
 rfl
theorem node_k9 {d : Nat} {s : St} {x : Nd} (hk : x.kind = 9) : nodeS (levS d).1 (levS d).2.1 (ndD d) s x = redirsS (levS d).1 (putS (blockS (levS d).2.1 (lineS (wordsS (levS d).1 (putS s ([102, 111, 114, 32] ++ L x.name ++ [32, 105, 110])) x.words true)) [100, 111] (listAt x 0)) [100, 111, 110, 101]) x.redirs true := by
 simp only [nodeS, bodyS, compS, hk]
 rfl
theorem node_k10 {d : Nat} {s : St} {x : Nd} (hk : x.kind = 10) : nodeS (levS d).1 (levS d).2.1 (ndD d) s x = redirsS (levS d).1 (caseS (levS d).1 (levS d).2.1 s x) x.redirs true := by
 simp only [nodeS, bodyS, compS, hk]
 rfl
theorem node_k11 {d : Nat} {s : St} {x : Nd} (hk : x.kind = 11) : nodeS (levS d).1 (levS d).2.1 (ndD d) s x = redirsS (levS d).1 (oneS (ndD d) (putS s (L x.name ++ [40, 41, 32])) (listAt x 0)) x.redirs true := by
 simp only [nodeS, bodyS, compS, hk]
 rfl
theorem node_k12 {d : Nat} {s : St} {x : Nd} (hk : x.kind = 12) : nodeS (levS d).1 (levS d).2.1 (ndD d) s x = redirsS (levS d).1 (putS (blockS (levS d).2.1 s [40] (listAt x 0)) [41]) x.redirs true := by
 simp only [nodeS, bodyS, compS, hk]
 rfl
theorem node_k13 {d : Nat} {s : St} {x : Nd} (hk : x.kind = 13) : nodeS (levS d).1 (levS d).2.1 (ndD d) s x = redirsS (levS d).1 (putS (blockS (levS d).2.1 s [123] (listAt x 0)) [125]) x.redirs true := by
 simp only [nodeS, bodyS, compS, hk]
 rfl
theorem rnode_any {B d : Nat} (hT : RTextAt B d) (hLs : RListAtS B d) (hNd : ∀ d', d = d' + 1 → RNodeAtS B d') : RNodeAtS B d := by
 intro W dv out ds x c h hc hg hlen
 rw [levG_node] at hg
 rw [levS_node] at hlen ⊢
 have hr : 1 ≤ x.kind ∧ x.kind ≤ 13 := by
  have h1 := hg
  rw [nodeG, Bool.and_eq_true, nkindB, Bool.and_eq_true, Bool.and_eq_true] at h1
  exact ⟨of_decide_eq_true h1.1.1.1, of_decide_eq_true h1.1.1.2⟩
 have hcs : x.kind = 1 ∨ x.kind = 2 ∨ x.kind = 3 ∨ x.kind = 4 ∨ x.kind = 5 ∨ x.kind = 6 ∨ x.kind = 7 ∨ x.kind = 8 ∨ x.kind = 9 ∨ x.kind = 10 ∨ x.kind = 11 ∨ x.kind = 12 ∨ x.kind = 13 := by omega
 clear hr
 rcases hcs with hk | hk | hk | hk | hk | hk | hk | hk | hk | hk | hk | hk | hk
 · rw [node_k1 hk] at hlen ⊢
   exact rnode_simple hT (rline B) hLs hNd W dv out ds x c h hc hg hk hlen
 · rw [node_k2 hk] at hlen ⊢
   exact rnode_join hT (rline B) hLs hNd W dv out ds x c h hc hg 2 hk (by omega) hlen
 · rw [node_k3 hk] at hlen ⊢
   exact rnode_join hT (rline B) hLs hNd W dv out ds x c h hc hg 3 hk (by omega) hlen
 · rw [node_k4 hk] at hlen ⊢
   exact rnode_join hT (rline B) hLs hNd W dv out ds x c h hc hg 4 hk (by omega) hlen
 · rw [node_k5 hk] at hlen ⊢
   exact rnode_not hT (rline B) hLs hNd W dv out ds x c h hc hg hk hlen
 · rw [node_k6 hk] at hlen ⊢
   exact rnode_if hT (rline B) hLs hNd W dv out ds x c h hc hg hk hlen
 · rw [node_k7 hk] at hlen ⊢
   exact rnode_while hT (rline B) hLs hNd W dv out ds x c h hc hg hk hlen
 · rw [node_k8 hk] at hlen ⊢
   exact rnode_until hT (rline B) hLs hNd W dv out ds x c h hc hg hk hlen
 · rw [node_k9 hk] at hlen ⊢
   exact rnode_for hT (rline B) hLs hNd W dv out ds x c h hc hg hk hlen
 · rw [node_k10 hk] at hlen ⊢
   exact rnode_case hT (rline B) hLs hNd W dv out ds x c h hc hg hk hlen
 · rw [node_k11 hk] at hlen ⊢
   exact rnode_func hT (rline B) hLs hNd W dv out ds x c h hc hg hk hlen
 · rw [node_k12 hk] at hlen ⊢
   exact rnode_sub hT (rline B) hLs hNd W dv out ds x c h hc hg hk hlen
 · rw [node_k13 hk] at hlen ⊢
   exact rnode_group hT (rline B) hLs hNd W dv out ds x c h hc hg hk hlen
theorem rlevS (B : Nat) : ∀ d, RTextAt B d ∧ RListAtS B d ∧ RNodeAtS B d
 | 0 => ⟨rtext_zero B, rlist_zero B (rlist_nil B), rnode_any (rtext_zero B) (rlist_zero B (rlist_nil B)) (fun d' h => by omega)⟩
 | d + 1 => by
   obtain ⟨h1, h2, h3⟩ := rlevS B d
   have ht : RTextAt B (d + 1) := rtext_succ h1 (rshow_any h2)
   have hl : RListAtS B (d + 1) := rlist_succ (rline B) h3
   exact ⟨ht, hl, rnode_any ht hl (fun d' h => by have e : d' = d := Nat.succ.inj h.symm; rw [e]; exact h3)⟩
end Go.Proofs.YtnackmnoldkihaaGreatDoor
