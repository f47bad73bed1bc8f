/-
  The document's writer: ! and functions.
-/
import Derived.Test.YtnackmnoldkihaaGreatDoorW37
set_option linter.unusedVariables false
set_option linter.unusedSimpArgs false
namespace Go.Proofs.YtnackmnoldkihaaGreatDoor
open Go.RowKit

theorem ndD_of {d d' : Nat} (h : d = d' + 1) : ndD d = (levS d').2.2 := by rw [h]; rfl
theorem gnD_of {d d' : Nat} (h : d = d' + 1) : gnD d = (levG d').2.2 := by rw [h]; rfl
set_option maxHeartbeats 8000000 in
set_option maxRecDepth 100000 in
theorem rnode_not {B d : Nat} (hT : RTextAt B d) (hLn : RLineAt B) (hLs : RListAtS B d) (hNd : ∀ d', d = d' + 1 → RNodeAtS B d') (W0 : World) (dv0 : Value) (out0 : List UInt8) (ds0 : List DocV) (x : Nd) (c : List Value) (h : RW W0 B dv0 out0 ds0) (hc : NdC W0 B d x c) (hg : nodeG (levG d).1 (levG d).2.1 (gnD d) x = true) (hk : x.kind = 5) (hlen : (redirsS (levS d).1 (oneS (ndD d) (putS (stOf out0 ds0) ([33, 32])) (listAt x 0)) x.redirs true).1.length ≤ lim) :
 Calls Tryz.prog 63 #[.agg #[.string (S out0), dv0], .agg c.toArray] W0 (RS W0 B (redirsS (levS d).1 (oneS (ndD d) (putS (stOf out0 ds0) ([33, 32])) (listAt x 0)) x.redirs true)) := by
 obtain ⟨w, hw⟩ : ∃ w, w = W0 := ⟨_, rfl⟩
 subst hw
 have hBw := h.2.2.2
 rw [nodeG, Bool.and_eq_true, nodeF, Bool.and_eq_true, Bool.and_eq_true, Bool.and_eq_true, Bool.and_eq_true, Bool.and_eq_true, Bool.and_eq_true] at hg
 obtain ⟨hkb, hsh, hfas, hfw, hfr, hfl, hfn, hfa⟩ := hg
 obtain ⟨a1, c1, a2, c2, a3, c3, a4, c4, a5, c5, rfl, hxz, ⟨hn1, hn2, hn3, hn4, hn5⟩, hAs, hWs, hRd, hLs0, hAr⟩ := hc.open
 obtain ⟨n1, hl1⟩ : ∃ n, x.assigns.length = n := ⟨_, rfl⟩
 obtain ⟨n2, hl2⟩ : ∃ n, x.words.length = n := ⟨_, rfl⟩
 obtain ⟨n3, hl3⟩ : ∃ n, x.redirs.length = n := ⟨_, rfl⟩
 obtain ⟨n4, hl4⟩ : ∃ n, x.lists.length = n := ⟨_, rfl⟩
 obtain ⟨n5, hl5⟩ : ∃ n, x.arms.length = n := ⟨_, rfl⟩
 rw [hl1] at hn1 hAs ⊢
 rw [hl2] at hn2 hWs ⊢
 rw [hl3] at hn3 hRd ⊢
 rw [hl4] at hn4 hLs0 ⊢
 rw [hl5] at hn5 hAr ⊢
 have HAS := Lib.hid hAs
 have HWS := Lib.hid hWs
 have HRD := Lib.hid hRd
 have HLI := Lib.hid hLs0
 have HARM := Lib.hid hAr
 have N1 := Lib.hid hl1
 have N2 := Lib.hid hl2
 have N3 := Lib.hid hl3
 have N4 := Lib.hid hl4
 have N5 := Lib.hid hl5
 have GAS := Lib.hid (List.all_eq_true.1 hfas)
 have GWS := Lib.hid (List.all_eq_true.1 hfw)
 have GRD := Lib.hid hfr
 have GLI := Lib.hid (List.all_eq_true.1 hfl)
 have GLN := Lib.hid (List.all_eq_true.1 hfn)
 have GAR := Lib.hid (List.all_eq_true.1 hfa)
 have GSH := Lib.hid hsh
 have GKB := Lib.hid hkb
 have HT := Lib.hid hT
 have HLN := Lib.hid hLn
 have HLS := Lib.hid hLs
 have HND := Lib.hid hNd
 have HK := Lib.hid hk
 obtain ⟨a9, c9, rfl⟩ := h.shape
 obtain ⟨n0, hn0⟩ : ∃ n, ds0.length = n := ⟨_, rfl⟩
 rw [hk]
 have HB0 := Lib.hid (BW.start2 h 64 #[.int .i64 5, .string x.name, .slice a1 n1 c1, .slice a2 n2 c2, .slice a3 n3 c3, .slice a4 n4 c4, .slice a5 n5 c5])
 rw [hn0] at HB0 ⊢
 obtain ⟨s0, hs0⟩ : ∃ s, stOf out0 ds0 = s := ⟨_, rfl⟩
 have HS0 := Lib.hid hs0
 rw [hs0] at hlen ⊢
 have HLEN := Lib.hid hlen
 clear hl1 hl2 hl3 hl4 hl5 hAs hWs hRd hLs0 hAr hfas hfw hfr hfl hfn hfa hsh hkb hT hLn hLs hNd hk h hc hn0 hs0 hlen
 have hn40 : 0 < n4 ∧ 0 < (listAt x 0).length := by
  have h1 := GSH.out
  rw [shapeF, HK.out] at h1
  have h2 := N4.out
  cases hq : x.lists with
  | nil => rw [hq] at h1; cases h1
  | cons y l =>
    rw [hq] at h1 h2
    refine ⟨by simp at h2; omega, ?_⟩
    rw [listAt, hq]
    cases y with
    | nil => cases h1
    | cons z r => simp
 obtain ⟨hn40, hl0⟩ := hn40
 obtain ⟨b0, o0, la0, lc0, hi0, hbB0, hce0, hyp0, hmem0⟩ := list_at HLI.out (k := 0) (by rw [N4.out]; omega)
 have hbw0 := Nat.lt_of_lt_of_le hbB0 hBw
 have HYP0 : Hid (NdsIn w B d (listAt x 0) (.slice la0 (listAt x 0).length lc0)) := Lib.hid hyp0
 have HGL0 : Hid ((levG d).2.1 (listAt x 0) = true) := Lib.hid (GLI.out _ hmem0)
 have HGN0 : Hid ((listAt x 0).all (gnD d) = true) := Lib.hid (GLN.out _ hmem0)
 have E0 : Hid (w.cell? ⟨b0, o0, none⟩ = some (.slice la0 (listAt x 0).length lc0)) := Lib.hid hce0
 have hbg0 : b0 ≠ w.heap.size := by omega
 have hj0 : ∀ w' : World, (Instr.indexAt 61 (.slice a4 n4 c4) (.int .i64 0)).run Tryz.prog w' = .ok (.pointer (some ⟨b0, o0, none⟩)) w' := fun w' => hi0 w'
 clear hi0
 obtain ⟨ny0, hny0⟩ : ∃ n, (listAt x 0).length = n := ⟨_, rfl⟩
 rw [hny0] at HYP0 E0
 clear hce0 hyp0 hmem0 hny0
 have hb0 := List.length_pos_iff.1 hl0
 obtain ⟨z, r, d', bz, oz, cz, hlz, hdd, hiz, hbz, hcz, hCz⟩ := HYP0.out.head14 hl0
 have HNDE := Lib.hid (ndD_of hdd)
 have HGZ : Hid ((levG d').2.2 z = true) := Lib.hid (by
  have h1 := HGN0.out
  rw [hlz, List.all_cons, Bool.and_eq_true, gnD_of hdd] at h1
  exact h1.1)
 have HCZ := Lib.hid hCz
 obtain ⟨z1, y1, z2, y2, z3, y3, z4, y4, z5, y5, rfl, _⟩ := hCz.open
 have HNZ := Lib.hid (HND.out d' hdd)
 have HON : Hid (∀ s, oneS (ndD d) s (listAt x 0) = (levS d').2.2 s z) := Lib.hid fun s => by rw [hlz, HNDE.out]; rfl
 have hbwz := Nat.lt_of_lt_of_le hbz hBw
 have hbgz : bz ≠ w.heap.size := by omega
 have F0 := Lib.hid (hcz 0 _ rfl)
 have F1 := Lib.hid (hcz 1 _ rfl)
 have F2 := Lib.hid (hcz 2 _ rfl)
 have F3 := Lib.hid (hcz 3 _ rfl)
 have F4 := Lib.hid (hcz 4 _ rfl)
 have F5 := Lib.hid (hcz 5 _ rfl)
 have F6 := Lib.hid (hcz 6 _ rfl)
 rw [Nat.add_zero] at F0
 rw [HON.out] at HLEN ⊢
 have HLB : Hid (((levS d').2.2 (putS s0 ([33, 32])) z).1.length ≤ lim) := Lib.hid (Nat.le_trans (redirsS_grow (levS_grow d).1 _ _ _) HLEN.out)
 have HLB0 : Hid ((putS s0 ([33, 32])).1.length ≤ lim) := Lib.hid (Nat.le_trans ((levS_grow d').2.2 _ _) HLB.out)
 clear hb0 hl0 hlz hdd hCz hcz
 obtain ⟨zc, hzc⟩ : ∃ cs : Array Value, cs = #[.int .i64 z.kind, .string z.name, .slice z1 z.assigns.length y1, .slice z2 z.words.length y2, .slice z3 z.redirs.length y3, .slice z4 z.lists.length y4, .slice z5 z.arms.length y5] := ⟨_, rfl⟩
 go_enter Tryz.func63, Tryz.ntmps63
 go_upto_region 1 with fail
 obtain ⟨V, hV⟩ : ∃ V, V = ((w.alloc (.cells #[.string (S out0), .slice a9 n0 c9] 87)).alloc (.cells #[.int .i64 5, .string x.name, .slice a1 n1 c1, .slice a2 n2 c2, .slice a3 n3 c3, .slice a4 n4 c4, .slice a5 n5 c5] 64)).alloc (.cells #[.string ⟨#[]⟩, .slice none 0 0] 87) := ⟨_, rfl⟩
 have HNB : Hid (Blk V (w.heap.size + 1) 64 #[.int .i64 5, .string x.name, .slice a1 n1 c1, .slice a2 n2 c2, .slice a3 n3 c3, .slice a4 n4 c4, .slice a5 n5 c5]) := Lib.hid (by rw [hV]; exact (Blk.at (by simp)).alloc _)
 rw [← hV] at HB0 ⊢
 clear hV
 have HX0 : Hid (InX w V B 64 #[.int .i64 5, .string x.name, .slice a1 n1 c1, .slice a2 n2 c2, .slice a3 n3 c3, .slice a4 n4 c4, .slice a5 n5 c5] s0) := Lib.hid ⟨⟨_, _, _, HB0.out, HS0.out⟩, HNB.out⟩
 have HLO := Lib.hid HB0.out.low
 have hPT : L (⟨#[33, 32]⟩) = [33, 32] := by rfl
 have CP : Hid (∀ U, Below V.heap.size V U → Calls Tryz.prog 83 #[.agg #[.string (S out0), .slice a9 n0 c9], .string (⟨#[33, 32]⟩)] U (RS U B (putS s0 ([33, 32])))) := Lib.hid fun U hU => by
  have := put_at B U _ out0 ds0 (⟨#[33, 32]⟩) (HB0.out.rw.below hU) (put_len (s := stOf out0 ds0) (ds := ds0) rfl (by rw [hPT, HS0.out]; exact HLB0.out))
  rw [hPT, HS0.out] at this
  exact this
 have k1 : ∀ V : World, (Op.stringOp .add x.name ⟨#[40, 41, 32]⟩).run Tryz.prog V = .ok (.string (x.name ++ ⟨#[40, 41, 32]⟩)) V := fun V => run_string_add_sum V _ _ (by simp; omega)
 clear hPT
 obtain ⟨x0, x1, x2, x3, x4, x5, x6, xl⟩ := HNB.out.box7
 go_upto_region 26 with fail
 have e0 := (HLO.out.cell hbw0).trans E0.out
 have hbr0 : b0 < V.heap.size := Nat.lt_of_lt_of_le hbw0 HLO.out.size
 have hbrz : bz < V.heap.size := Nat.lt_of_lt_of_le hbwz HLO.out.size
 have f0 := (HLO.out.cell hbwz).trans F0.out
 have f1 := (HLO.out.cell hbwz).trans F1.out
 have f2 := (HLO.out.cell hbwz).trans F2.out
 have f3 := (HLO.out.cell hbwz).trans F3.out
 have f4 := (HLO.out.cell hbwz).trans F4.out
 have f5 := (HLO.out.cell hbwz).trans F5.out
 have f6 := (HLO.out.cell hbwz).trans F6.out
 clear x0 x2 x3 x4 x6 HX0
 obtain ⟨p0, p1, pf, pg, pl, pr0, pr1, prf, prg, prl⟩ := HB0.out.boxw
 refine wp_region_held_drew (S := fun w' => w'.cell? ⟨w.heap.size + 1, 5, none⟩ = some (.slice a4 n4 c4) ∧ w'.cell? ⟨b0, o0, none⟩ = some (.slice la0 ny0 lc0) ∧ w'.cell? ⟨w.heap.size + 1, 1, none⟩ = some (.string x.name) ∧ w'.cell? ⟨bz, oz, none⟩ = some (.int .i64 z.kind) ∧ w'.cell? ⟨bz, oz + 1, none⟩ = some (.string z.name) ∧ w'.cell? ⟨bz, oz + 2, none⟩ = some (.slice z1 z.assigns.length y1) ∧ w'.cell? ⟨bz, oz + 3, none⟩ = some (.slice z2 z.words.length y2) ∧ w'.cell? ⟨bz, oz + 4, none⟩ = some (.slice z3 z.redirs.length y3) ∧ w'.cell? ⟨bz, oz + 5, none⟩ = some (.slice z4 z.lists.length y4) ∧ w'.cell? ⟨bz, oz + 6, none⟩ = some (.slice z5 z.arms.length y5)) (by kernel_rfl) ?_ (fun hHeld => ?_)
 · exact ⟨x5, e0, x1, f0, f1, f2, f3, f4, f5, f6⟩
 refine tk 2 ?_
 refine tk 3 ?_
 refine tk 4 ?_
 refine tk 5 ?_
 refine tk 6 ?_
 refine tk 7 ?_
 try simp only [Act.put, List.getElem_toArray, List.getElem_cons_zero, List.getElem_cons_succ, List.setIfInBounds_toArray, List.set_cons_zero, List.set_cons_succ]
 refine wpAnyH_ready (rs := [0]) (by kernel_rfl) (by simp) ?_
 refine AllReadyH.cons rfl (fun K hK => ?_) AllReadyH.nil
 go_simp
 refine hK.out _ _ ?_ (fun hHeld => ?_)
 · exact ⟨x5, e0, x1, f0, f1, f2, f3, f4, f5, f6⟩
 clear hK K
 try simp only [Act.put, List.getElem_toArray, List.getElem_cons_zero, List.getElem_cons_succ, List.setIfInBounds_toArray, List.set_cons_zero, List.set_cons_succ]
 refine wpAnyH_ready (rs := [1]) (by kernel_rfl) (by simp) ?_
 refine AllReadyH.cons rfl (fun K hK => ?_) AllReadyH.nil
 go_simp
 go_at_call 83
 refine (CP.out _ (Below.drew (Below.refl _ _))).mono ?_
 rintro e w1 hrs
 obtain ⟨dv1, q1, ds1, rfl, hs1, hr1, hb1⟩ := hrs.st
 obtain ⟨a1, c1, rfl⟩ := hr1.shape
 have HB1 := Lib.hid (((Below.refl _ _).drew).trans (show Below V.heap.size V.drew w1 from hb1))
 have HR1 := Lib.hid hr1
 have HS1 := Lib.hid hs1
 obtain ⟨n1, hn1⟩ : ∃ n, ds1.length = n := ⟨_, rfl⟩
 rw [hn1] at HR1 ⊢
 have HN1 := Lib.hid hn1
 clear hrs hr1 hs1 hb1 hn1
 go_wp2_with fail
 refine hK.out _ _ ?_ (fun hHeld => ?_)
 · exact ⟨(HB1.out.cell xl).trans x5, (HB1.out.cell hbr0).trans e0, (HB1.out.cell xl).trans x1, (HB1.out.cell hbrz).trans f0, (HB1.out.cell hbrz).trans f1, (HB1.out.cell hbrz).trans f2, (HB1.out.cell hbrz).trans f3, (HB1.out.cell hbrz).trans f4, (HB1.out.cell hbrz).trans f5, (HB1.out.cell hbrz).trans f6⟩
 clear hK K
 try simp only [Act.put, List.getElem_toArray, List.getElem_cons_zero, List.getElem_cons_succ, List.setIfInBounds_toArray, List.set_cons_zero, List.set_cons_succ]
 have HQA : Hid (redirsS (levS d).1 ((levS d').2.2 (putS s0 ([33, 32])) z) x.redirs true = redirsS (levS d).1 ((levS d').2.2 (stOf q1 ds1) z) x.redirs true) := Lib.hid (by rw [HS1.out])
 rw [HS1.out] at HLB HLEN
 have CN := Lib.hid (HNZ.out w1 _ q1 ds1 z _ HR1.out (HCZ.out.later2 ((HLO.out.trans (HB1.out.mono HLO.out.size)).mono hBw)) HGZ.out HLB.out)
 refine wpAnyH_ready (rs := [8]) (by kernel_rfl) (by simp) ?_
 refine AllReadyH.cons rfl (fun K hK => ?_) AllReadyH.nil
 go_simp
 go_at_call 63
 refine CN.out.mono ?_
 rintro e w2 hrs
 obtain ⟨dv2, q2, ds2, rfl, hs2, hr2, hb2⟩ := hrs.st
 obtain ⟨a2, c2, rfl⟩ := hr2.shape
 have HB2 := Lib.hid (HB1.out.trans (hb2.mono HB1.out.size))
 have HR2 := Lib.hid hr2
 have HS2 := Lib.hid hs2
 obtain ⟨n2, hn2⟩ : ∃ n, ds2.length = n := ⟨_, rfl⟩
 rw [hn2] at HR2 ⊢
 have HN2 := Lib.hid hn2
 clear hrs hr2 hs2 hb2 hn2
 have HK2 := Lib.hid (HB0.out.later HB2.out)
 clear p0 p1 pf pg pl pr0 pr1 prf prg prl
 obtain ⟨p0, p1, pf, pg, pl, pr0, pr1, prf, prg, prl⟩ := HK2.out.boxw
 go_wp2_with fail
 refine hK.out _ _ ?_ (fun hHeld => ?_)
 · exact ⟨(HB2.out.cell xl).trans x5, (HB2.out.cell hbr0).trans e0, (HB2.out.cell xl).trans x1, (HB2.out.cell hbrz).trans f0, (HB2.out.cell hbrz).trans f1, (HB2.out.cell hbrz).trans f2, (HB2.out.cell hbrz).trans f3, (HB2.out.cell hbrz).trans f4, (HB2.out.cell hbrz).trans f5, (HB2.out.cell hbrz).trans f6⟩
 clear hK K
 try simp only [Act.put, List.getElem_toArray, List.getElem_cons_zero, List.getElem_cons_succ, List.setIfInBounds_toArray, List.set_cons_zero, List.set_cons_succ]
 refine wpAnyH_ready (rs := [9]) (by kernel_rfl) (by simp) ?_
 refine AllReadyH.cons rfl (fun K hK => ?_) AllReadyH.nil
 go_simp
 refine hK.out _ _ ?_ (fun hHeld => ?_)
 · exact ⟨cell_far2 ((HB2.out.cell xl).trans x5) (by omega), cell_far2 ((HB2.out.cell hbr0).trans e0) hbg0, cell_far2 ((HB2.out.cell xl).trans x1) (by omega), cell_far2 ((HB2.out.cell hbrz).trans f0) hbgz, cell_far2 ((HB2.out.cell hbrz).trans f1) hbgz, cell_far2 ((HB2.out.cell hbrz).trans f2) hbgz, cell_far2 ((HB2.out.cell hbrz).trans f3) hbgz, cell_far2 ((HB2.out.cell hbrz).trans f4) hbgz, cell_far2 ((HB2.out.cell hbrz).trans f5) hbgz, cell_far2 ((HB2.out.cell hbrz).trans f6) hbgz⟩
 clear hK K
 try simp only [Act.put, List.getElem_toArray, List.getElem_cons_zero, List.getElem_cons_succ, List.setIfInBounds_toArray, List.set_cons_zero, List.set_cons_succ]
 refine wpAnyH_done (by kernel_rfl) ?_ _
 have HE2 := Lib.hid (HB0.out.putX HNB.out HB2.out HR2.out HS2.out)
 clear p0 p1 pf pg pl pr0 pr1 prf prg prl
 clear hHeld
 obtain ⟨V2, hV2⟩ : ∃ V2, V2 = (w2.setCell ⟨w.heap.size, 0, none⟩ (.string (S q2))).setCell ⟨w.heap.size, 1, none⟩ (.slice a2 n2 c2) := ⟨_, rfl⟩
 rw [← hV2] at HE2 ⊢
 clear hV2
 clear x5 xl e0 hbr0 hj0 x1 f0 f1 f2 f3 f4 f5 f6 hiz CP CN k1
 obtain ⟨da3, nd3, dc3, q3, ds3, hb3, hst3, hnd3, hak3⟩ := HE2.out.open
 have HB3 := Lib.hid hb3
 have HST3 := Lib.hid hst3
 have HAK3 := Lib.hid hak3
 clear hb3 hst3 hnd3 hak3
 obtain ⟨x0, x1, x2, x3, x4, x5, x6, xl⟩ := HAK3.out.box7
 have HQ3 : Hid ((levS d').2.2 (stOf q1 ds1) z = stOf q3 ds3) := Lib.hid HST3.out.symm
 have HLR : Hid ((redirsS (levS d).1 (stOf q3 ds3) x.redirs true).1.length ≤ lim) := Lib.hid (by rw [← HQ3.out]; exact HLEN.out)
 have HLO9 := Lib.hid HB3.out.low
 have CR := Lib.hid (rredirs_any HT.out HB3.out.rw (HRD.out.imp (fun xs hs => hs.below (HLO9.out.mono hBw)) fun _ _ _ h => h.keep fun _ _ _ _ hs => hs.below (HLO9.out.mono hBw)) GRD.out true HLR.out)
 obtain ⟨p0, p1, pf, pg, pl, pr0, pr1, prf, prg, prl⟩ := HB3.out.boxw
 go_wp2_with fail
 refine CR.out.mono ?_
 rintro e w9 hrs
 obtain ⟨dv9, q9, ds9, rfl, hs9, hr9, hb9⟩ := hrs.st
 obtain ⟨a9, c9, rfl⟩ := hr9.shape
 have HB9 := Lib.hid (hb9)
 have HR9 := Lib.hid hr9
 have HS9 := Lib.hid hs9
 obtain ⟨n9, hn9⟩ : ∃ n, ds9.length = n := ⟨_, rfl⟩
 rw [hn9] at HR9 ⊢
 have HN9 := Lib.hid hn9
 clear hrs hr9 hs9 hb9 hn9
 clear p0 p1 pf pg pl pr0 pr1 prf prg prl
 have HKR := Lib.hid (HB3.out.later HB9.out)
 obtain ⟨z0, z1, zf, zg, zl, zr0, zr1, zrf, zrg, zrl⟩ := HKR.out.boxw
 go_wp2_with fail
 have HRS := Lib.hid (HB3.out.out2 HB9.out HR9.out (HQA.out.trans ((congrArg (fun s => redirsS (levS d).1 s x.redirs true) HQ3.out).trans HS9.out)))
 have HRB := Lib.hid (HB3.out.out2_res (dv' := .slice a9 n9 c9) (out' := q9) HB9.out)
 clear z0 z1 zf zg zl zr0 zr1 zrf zrg zrl
 obtain ⟨Z, hZ⟩ : ∃ Z, Z = ((w9.setCell ⟨w.heap.size + 2, 0, none⟩ (.string (S q9))).setCell ⟨w.heap.size + 2, 1, none⟩ (.slice a9 n9 c9)) := ⟨_, rfl⟩
 rw [← hZ] at HRS HRB
 have y0 := HRB.out.cell 0
 have y1 := HRB.out.cell 1
 simp at y0 y1
 try rw [← hZ]
 clear hZ
 refine bodyPost_ret (v := .agg #[.string (S q9), .slice a9 n9 c9]) (by simp [results, Tryz.results63, go_sem, y0, y1]) rfl HRS.out
set_option maxHeartbeats 8000000 in
set_option maxRecDepth 100000 in
theorem rnode_func {B d : Nat} (hT : RTextAt B d) (hLn : RLineAt B) (hLs : RListAtS B d) (hNd : ∀ d', d = d' + 1 → RNodeAtS B d') (W0 : World) (dv0 : Value) (out0 : List UInt8) (ds0 : List DocV) (x : Nd) (c : List Value) (h : RW W0 B dv0 out0 ds0) (hc : NdC W0 B d x c) (hg : nodeG (levG d).1 (levG d).2.1 (gnD d) x = true) (hk : x.kind = 11) (hlen : (redirsS (levS d).1 (oneS (ndD d) (putS (stOf out0 ds0) (L x.name ++ [40, 41, 32])) (listAt x 0)) x.redirs true).1.length ≤ lim) :
 Calls Tryz.prog 63 #[.agg #[.string (S out0), dv0], .agg c.toArray] W0 (RS W0 B (redirsS (levS d).1 (oneS (ndD d) (putS (stOf out0 ds0) (L x.name ++ [40, 41, 32])) (listAt x 0)) x.redirs true)) := by
 obtain ⟨w, hw⟩ : ∃ w, w = W0 := ⟨_, rfl⟩
 subst hw
 have hBw := h.2.2.2
 rw [nodeG, Bool.and_eq_true, nodeF, Bool.and_eq_true, Bool.and_eq_true, Bool.and_eq_true, Bool.and_eq_true, Bool.and_eq_true, Bool.and_eq_true] at hg
 obtain ⟨hkb, hsh, hfas, hfw, hfr, hfl, hfn, hfa⟩ := hg
 obtain ⟨a1, c1, a2, c2, a3, c3, a4, c4, a5, c5, rfl, hxz, ⟨hn1, hn2, hn3, hn4, hn5⟩, hAs, hWs, hRd, hLs0, hAr⟩ := hc.open
 obtain ⟨n1, hl1⟩ : ∃ n, x.assigns.length = n := ⟨_, rfl⟩
 obtain ⟨n2, hl2⟩ : ∃ n, x.words.length = n := ⟨_, rfl⟩
 obtain ⟨n3, hl3⟩ : ∃ n, x.redirs.length = n := ⟨_, rfl⟩
 obtain ⟨n4, hl4⟩ : ∃ n, x.lists.length = n := ⟨_, rfl⟩
 obtain ⟨n5, hl5⟩ : ∃ n, x.arms.length = n := ⟨_, rfl⟩
 rw [hl1] at hn1 hAs ⊢
 rw [hl2] at hn2 hWs ⊢
 rw [hl3] at hn3 hRd ⊢
 rw [hl4] at hn4 hLs0 ⊢
 rw [hl5] at hn5 hAr ⊢
 have HAS := Lib.hid hAs
 have HWS := Lib.hid hWs
 have HRD := Lib.hid hRd
 have HLI := Lib.hid hLs0
 have HARM := Lib.hid hAr
 have N1 := Lib.hid hl1
 have N2 := Lib.hid hl2
 have N3 := Lib.hid hl3
 have N4 := Lib.hid hl4
 have N5 := Lib.hid hl5
 have GAS := Lib.hid (List.all_eq_true.1 hfas)
 have GWS := Lib.hid (List.all_eq_true.1 hfw)
 have GRD := Lib.hid hfr
 have GLI := Lib.hid (List.all_eq_true.1 hfl)
 have GLN := Lib.hid (List.all_eq_true.1 hfn)
 have GAR := Lib.hid (List.all_eq_true.1 hfa)
 have GSH := Lib.hid hsh
 have GKB := Lib.hid hkb
 have HT := Lib.hid hT
 have HLN := Lib.hid hLn
 have HLS := Lib.hid hLs
 have HND := Lib.hid hNd
 have HK := Lib.hid hk
 obtain ⟨a9, c9, rfl⟩ := h.shape
 obtain ⟨n0, hn0⟩ : ∃ n, ds0.length = n := ⟨_, rfl⟩
 rw [hk]
 have HB0 := Lib.hid (BW.start2 h 64 #[.int .i64 11, .string x.name, .slice a1 n1 c1, .slice a2 n2 c2, .slice a3 n3 c3, .slice a4 n4 c4, .slice a5 n5 c5])
 rw [hn0] at HB0 ⊢
 obtain ⟨s0, hs0⟩ : ∃ s, stOf out0 ds0 = s := ⟨_, rfl⟩
 have HS0 := Lib.hid hs0
 rw [hs0] at hlen ⊢
 have HLEN := Lib.hid hlen
 clear hl1 hl2 hl3 hl4 hl5 hAs hWs hRd hLs0 hAr hfas hfw hfr hfl hfn hfa hsh hkb hT hLn hLs hNd hk h hc hn0 hs0 hlen
 have hn40 : 0 < n4 ∧ 0 < (listAt x 0).length := by
  have h1 := GSH.out
  rw [shapeF, HK.out] at h1
  have h2 := N4.out
  cases hq : x.lists with
  | nil => rw [hq] at h1; cases h1
  | cons y l =>
    rw [hq] at h1 h2
    refine ⟨by simp at h2; omega, ?_⟩
    rw [listAt, hq]
    cases y with
    | nil => cases h1
    | cons z r => simp
 obtain ⟨hn40, hl0⟩ := hn40
 obtain ⟨b0, o0, la0, lc0, hi0, hbB0, hce0, hyp0, hmem0⟩ := list_at HLI.out (k := 0) (by rw [N4.out]; omega)
 have hbw0 := Nat.lt_of_lt_of_le hbB0 hBw
 have HYP0 : Hid (NdsIn w B d (listAt x 0) (.slice la0 (listAt x 0).length lc0)) := Lib.hid hyp0
 have HGL0 : Hid ((levG d).2.1 (listAt x 0) = true) := Lib.hid (GLI.out _ hmem0)
 have HGN0 : Hid ((listAt x 0).all (gnD d) = true) := Lib.hid (GLN.out _ hmem0)
 have E0 : Hid (w.cell? ⟨b0, o0, none⟩ = some (.slice la0 (listAt x 0).length lc0)) := Lib.hid hce0
 have hbg0 : b0 ≠ w.heap.size := by omega
 have hj0 : ∀ w' : World, (Instr.indexAt 61 (.slice a4 n4 c4) (.int .i64 0)).run Tryz.prog w' = .ok (.pointer (some ⟨b0, o0, none⟩)) w' := fun w' => hi0 w'
 clear hi0
 obtain ⟨ny0, hny0⟩ : ∃ n, (listAt x 0).length = n := ⟨_, rfl⟩
 rw [hny0] at HYP0 E0
 clear hce0 hyp0 hmem0 hny0
 have hb0 := List.length_pos_iff.1 hl0
 obtain ⟨z, r, d', bz, oz, cz, hlz, hdd, hiz, hbz, hcz, hCz⟩ := HYP0.out.head14 hl0
 have HNDE := Lib.hid (ndD_of hdd)
 have HGZ : Hid ((levG d').2.2 z = true) := Lib.hid (by
  have h1 := HGN0.out
  rw [hlz, List.all_cons, Bool.and_eq_true, gnD_of hdd] at h1
  exact h1.1)
 have HCZ := Lib.hid hCz
 obtain ⟨z1, y1, z2, y2, z3, y3, z4, y4, z5, y5, rfl, _⟩ := hCz.open
 have HNZ := Lib.hid (HND.out d' hdd)
 have HON : Hid (∀ s, oneS (ndD d) s (listAt x 0) = (levS d').2.2 s z) := Lib.hid fun s => by rw [hlz, HNDE.out]; rfl
 have hbwz := Nat.lt_of_lt_of_le hbz hBw
 have hbgz : bz ≠ w.heap.size := by omega
 have F0 := Lib.hid (hcz 0 _ rfl)
 have F1 := Lib.hid (hcz 1 _ rfl)
 have F2 := Lib.hid (hcz 2 _ rfl)
 have F3 := Lib.hid (hcz 3 _ rfl)
 have F4 := Lib.hid (hcz 4 _ rfl)
 have F5 := Lib.hid (hcz 5 _ rfl)
 have F6 := Lib.hid (hcz 6 _ rfl)
 rw [Nat.add_zero] at F0
 rw [HON.out] at HLEN ⊢
 have HLB : Hid (((levS d').2.2 (putS s0 (L x.name ++ [40, 41, 32])) z).1.length ≤ lim) := Lib.hid (Nat.le_trans (redirsS_grow (levS_grow d).1 _ _ _) HLEN.out)
 have HLB0 : Hid ((putS s0 (L x.name ++ [40, 41, 32])).1.length ≤ lim) := Lib.hid (Nat.le_trans ((levS_grow d').2.2 _ _) HLB.out)
 clear hb0 hl0 hlz hdd hCz hcz
 obtain ⟨zc, hzc⟩ : ∃ cs : Array Value, cs = #[.int .i64 z.kind, .string z.name, .slice z1 z.assigns.length y1, .slice z2 z.words.length y2, .slice z3 z.redirs.length y3, .slice z4 z.lists.length y4, .slice z5 z.arms.length y5] := ⟨_, rfl⟩
 go_enter Tryz.func63, Tryz.ntmps63
 go_upto_region 1 with fail
 obtain ⟨V, hV⟩ : ∃ V, V = ((w.alloc (.cells #[.string (S out0), .slice a9 n0 c9] 87)).alloc (.cells #[.int .i64 11, .string x.name, .slice a1 n1 c1, .slice a2 n2 c2, .slice a3 n3 c3, .slice a4 n4 c4, .slice a5 n5 c5] 64)).alloc (.cells #[.string ⟨#[]⟩, .slice none 0 0] 87) := ⟨_, rfl⟩
 have HNB : Hid (Blk V (w.heap.size + 1) 64 #[.int .i64 11, .string x.name, .slice a1 n1 c1, .slice a2 n2 c2, .slice a3 n3 c3, .slice a4 n4 c4, .slice a5 n5 c5]) := Lib.hid (by rw [hV]; exact (Blk.at (by simp)).alloc _)
 rw [← hV] at HB0 ⊢
 clear hV
 have HX0 : Hid (InX w V B 64 #[.int .i64 11, .string x.name, .slice a1 n1 c1, .slice a2 n2 c2, .slice a3 n3 c3, .slice a4 n4 c4, .slice a5 n5 c5] s0) := Lib.hid ⟨⟨_, _, _, HB0.out, HS0.out⟩, HNB.out⟩
 have HLO := Lib.hid HB0.out.low
 have hPT : L (x.name ++ ⟨#[40, 41, 32]⟩) = L x.name ++ [40, 41, 32] := by simp [L_append]
 have CP : Hid (∀ U, Below V.heap.size V U → Calls Tryz.prog 83 #[.agg #[.string (S out0), .slice a9 n0 c9], .string (x.name ++ ⟨#[40, 41, 32]⟩)] U (RS U B (putS s0 (L x.name ++ [40, 41, 32])))) := Lib.hid fun U hU => by
  have := put_at B U _ out0 ds0 (x.name ++ ⟨#[40, 41, 32]⟩) (HB0.out.rw.below hU) (put_len (s := stOf out0 ds0) (ds := ds0) rfl (by rw [hPT, HS0.out]; exact HLB0.out))
  rw [hPT, HS0.out] at this
  exact this
 have k1 : ∀ V : World, (Op.stringOp .add x.name ⟨#[40, 41, 32]⟩).run Tryz.prog V = .ok (.string (x.name ++ ⟨#[40, 41, 32]⟩)) V := fun V => run_string_add_sum V _ _ (by simp; omega)
 clear hPT
 obtain ⟨x0, x1, x2, x3, x4, x5, x6, xl⟩ := HNB.out.box7
 go_upto_region 51 with fail
 have e0 := (HLO.out.cell hbw0).trans E0.out
 have hbr0 : b0 < V.heap.size := Nat.lt_of_lt_of_le hbw0 HLO.out.size
 have hbrz : bz < V.heap.size := Nat.lt_of_lt_of_le hbwz HLO.out.size
 have f0 := (HLO.out.cell hbwz).trans F0.out
 have f1 := (HLO.out.cell hbwz).trans F1.out
 have f2 := (HLO.out.cell hbwz).trans F2.out
 have f3 := (HLO.out.cell hbwz).trans F3.out
 have f4 := (HLO.out.cell hbwz).trans F4.out
 have f5 := (HLO.out.cell hbwz).trans F5.out
 have f6 := (HLO.out.cell hbwz).trans F6.out
 clear x0 x2 x3 x4 x6 HX0
 obtain ⟨p0, p1, pf, pg, pl, pr0, pr1, prf, prg, prl⟩ := HB0.out.boxw
 refine wp_region_held_drew (S := fun w' => w'.cell? ⟨w.heap.size + 1, 5, none⟩ = some (.slice a4 n4 c4) ∧ w'.cell? ⟨b0, o0, none⟩ = some (.slice la0 ny0 lc0) ∧ w'.cell? ⟨w.heap.size + 1, 1, none⟩ = some (.string x.name) ∧ w'.cell? ⟨bz, oz, none⟩ = some (.int .i64 z.kind) ∧ w'.cell? ⟨bz, oz + 1, none⟩ = some (.string z.name) ∧ w'.cell? ⟨bz, oz + 2, none⟩ = some (.slice z1 z.assigns.length y1) ∧ w'.cell? ⟨bz, oz + 3, none⟩ = some (.slice z2 z.words.length y2) ∧ w'.cell? ⟨bz, oz + 4, none⟩ = some (.slice z3 z.redirs.length y3) ∧ w'.cell? ⟨bz, oz + 5, none⟩ = some (.slice z4 z.lists.length y4) ∧ w'.cell? ⟨bz, oz + 6, none⟩ = some (.slice z5 z.arms.length y5)) (by kernel_rfl) ?_ (fun hHeld => ?_)
 · exact ⟨x5, e0, x1, f0, f1, f2, f3, f4, f5, f6⟩
 refine tk 1 ?_
 refine tk 2 ?_
 refine tk 3 ?_
 refine tk 5 ?_
 refine tk 6 ?_
 refine tk 7 ?_
 refine tk 8 ?_
 refine tk 9 ?_
 try simp only [Act.put, List.getElem_toArray, List.getElem_cons_zero, List.getElem_cons_succ, List.setIfInBounds_toArray, List.set_cons_zero, List.set_cons_succ]
 refine tk 10 ?_
 try simp only [Act.put, List.getElem_toArray, List.getElem_cons_zero, List.getElem_cons_succ, List.setIfInBounds_toArray, List.set_cons_zero, List.set_cons_succ]
 refine wpAnyH_ready (rs := [0]) (by kernel_rfl) (by simp) ?_
 refine AllReadyH.cons rfl (fun K hK => ?_) AllReadyH.nil
 go_simp
 refine hK.out _ _ ?_ (fun hHeld => ?_)
 · exact ⟨x5, e0, x1, f0, f1, f2, f3, f4, f5, f6⟩
 clear hK K
 try simp only [Act.put, List.getElem_toArray, List.getElem_cons_zero, List.getElem_cons_succ, List.setIfInBounds_toArray, List.set_cons_zero, List.set_cons_succ]
 refine wpAnyH_ready (rs := [4]) (by kernel_rfl) (by simp) ?_
 refine AllReadyH.cons rfl (fun K hK => ?_) AllReadyH.nil
 go_simp
 go_at_call 83
 refine (CP.out _ (Below.drew (Below.refl _ _))).mono ?_
 rintro e w1 hrs
 obtain ⟨dv1, q1, ds1, rfl, hs1, hr1, hb1⟩ := hrs.st
 obtain ⟨a1, c1, rfl⟩ := hr1.shape
 have HB1 := Lib.hid (((Below.refl _ _).drew).trans (show Below V.heap.size V.drew w1 from hb1))
 have HR1 := Lib.hid hr1
 have HS1 := Lib.hid hs1
 obtain ⟨n1, hn1⟩ : ∃ n, ds1.length = n := ⟨_, rfl⟩
 rw [hn1] at HR1 ⊢
 have HN1 := Lib.hid hn1
 clear hrs hr1 hs1 hb1 hn1
 go_wp2_with fail
 refine hK.out _ _ ?_ (fun hHeld => ?_)
 · exact ⟨(HB1.out.cell xl).trans x5, (HB1.out.cell hbr0).trans e0, (HB1.out.cell xl).trans x1, (HB1.out.cell hbrz).trans f0, (HB1.out.cell hbrz).trans f1, (HB1.out.cell hbrz).trans f2, (HB1.out.cell hbrz).trans f3, (HB1.out.cell hbrz).trans f4, (HB1.out.cell hbrz).trans f5, (HB1.out.cell hbrz).trans f6⟩
 clear hK K
 try simp only [Act.put, List.getElem_toArray, List.getElem_cons_zero, List.getElem_cons_succ, List.setIfInBounds_toArray, List.set_cons_zero, List.set_cons_succ]
 have HQA : Hid (redirsS (levS d).1 ((levS d').2.2 (putS s0 (L x.name ++ [40, 41, 32])) z) x.redirs true = redirsS (levS d).1 ((levS d').2.2 (stOf q1 ds1) z) x.redirs true) := Lib.hid (by rw [HS1.out])
 rw [HS1.out] at HLB HLEN
 have CN := Lib.hid (HNZ.out w1 _ q1 ds1 z _ HR1.out (HCZ.out.later2 ((HLO.out.trans (HB1.out.mono HLO.out.size)).mono hBw)) HGZ.out HLB.out)
 refine wpAnyH_ready (rs := [11]) (by kernel_rfl) (by simp) ?_
 refine AllReadyH.cons rfl (fun K hK => ?_) AllReadyH.nil
 go_simp
 go_at_call 63
 refine CN.out.mono ?_
 rintro e w2 hrs
 obtain ⟨dv2, q2, ds2, rfl, hs2, hr2, hb2⟩ := hrs.st
 obtain ⟨a2, c2, rfl⟩ := hr2.shape
 have HB2 := Lib.hid (HB1.out.trans (hb2.mono HB1.out.size))
 have HR2 := Lib.hid hr2
 have HS2 := Lib.hid hs2
 obtain ⟨n2, hn2⟩ : ∃ n, ds2.length = n := ⟨_, rfl⟩
 rw [hn2] at HR2 ⊢
 have HN2 := Lib.hid hn2
 clear hrs hr2 hs2 hb2 hn2
 have HK2 := Lib.hid (HB0.out.later HB2.out)
 clear p0 p1 pf pg pl pr0 pr1 prf prg prl
 obtain ⟨p0, p1, pf, pg, pl, pr0, pr1, prf, prg, prl⟩ := HK2.out.boxw
 go_wp2_with fail
 refine hK.out _ _ ?_ (fun hHeld => ?_)
 · exact ⟨(HB2.out.cell xl).trans x5, (HB2.out.cell hbr0).trans e0, (HB2.out.cell xl).trans x1, (HB2.out.cell hbrz).trans f0, (HB2.out.cell hbrz).trans f1, (HB2.out.cell hbrz).trans f2, (HB2.out.cell hbrz).trans f3, (HB2.out.cell hbrz).trans f4, (HB2.out.cell hbrz).trans f5, (HB2.out.cell hbrz).trans f6⟩
 clear hK K
 try simp only [Act.put, List.getElem_toArray, List.getElem_cons_zero, List.getElem_cons_succ, List.setIfInBounds_toArray, List.set_cons_zero, List.set_cons_succ]
 refine wpAnyH_ready (rs := [12]) (by kernel_rfl) (by simp) ?_
 refine AllReadyH.cons rfl (fun K hK => ?_) AllReadyH.nil
 go_simp
 refine hK.out _ _ ?_ (fun hHeld => ?_)
 · exact ⟨cell_far2 ((HB2.out.cell xl).trans x5) (by omega), cell_far2 ((HB2.out.cell hbr0).trans e0) hbg0, cell_far2 ((HB2.out.cell xl).trans x1) (by omega), cell_far2 ((HB2.out.cell hbrz).trans f0) hbgz, cell_far2 ((HB2.out.cell hbrz).trans f1) hbgz, cell_far2 ((HB2.out.cell hbrz).trans f2) hbgz, cell_far2 ((HB2.out.cell hbrz).trans f3) hbgz, cell_far2 ((HB2.out.cell hbrz).trans f4) hbgz, cell_far2 ((HB2.out.cell hbrz).trans f5) hbgz, cell_far2 ((HB2.out.cell hbrz).trans f6) hbgz⟩
 clear hK K
 try simp only [Act.put, List.getElem_toArray, List.getElem_cons_zero, List.getElem_cons_succ, List.setIfInBounds_toArray, List.set_cons_zero, List.set_cons_succ]
 refine wpAnyH_done (by kernel_rfl) ?_ _
 have HE2 := Lib.hid (HB0.out.putX HNB.out HB2.out HR2.out HS2.out)
 clear p0 p1 pf pg pl pr0 pr1 prf prg prl
 clear hHeld
 obtain ⟨V2, hV2⟩ : ∃ V2, V2 = (w2.setCell ⟨w.heap.size, 0, none⟩ (.string (S q2))).setCell ⟨w.heap.size, 1, none⟩ (.slice a2 n2 c2) := ⟨_, rfl⟩
 rw [← hV2] at HE2 ⊢
 clear hV2
 clear x5 xl e0 hbr0 hj0 x1 f0 f1 f2 f3 f4 f5 f6 hiz CP CN k1
 obtain ⟨da3, nd3, dc3, q3, ds3, hb3, hst3, hnd3, hak3⟩ := HE2.out.open
 have HB3 := Lib.hid hb3
 have HST3 := Lib.hid hst3
 have HAK3 := Lib.hid hak3
 clear hb3 hst3 hnd3 hak3
 obtain ⟨x0, x1, x2, x3, x4, x5, x6, xl⟩ := HAK3.out.box7
 have HQ3 : Hid ((levS d').2.2 (stOf q1 ds1) z = stOf q3 ds3) := Lib.hid HST3.out.symm
 have HLR : Hid ((redirsS (levS d).1 (stOf q3 ds3) x.redirs true).1.length ≤ lim) := Lib.hid (by rw [← HQ3.out]; exact HLEN.out)
 have HLO9 := Lib.hid HB3.out.low
 have CR := Lib.hid (rredirs_any HT.out HB3.out.rw (HRD.out.imp (fun xs hs => hs.below (HLO9.out.mono hBw)) fun _ _ _ h => h.keep fun _ _ _ _ hs => hs.below (HLO9.out.mono hBw)) GRD.out true HLR.out)
 obtain ⟨p0, p1, pf, pg, pl, pr0, pr1, prf, prg, prl⟩ := HB3.out.boxw
 go_wp2_with fail
 refine CR.out.mono ?_
 rintro e w9 hrs
 obtain ⟨dv9, q9, ds9, rfl, hs9, hr9, hb9⟩ := hrs.st
 obtain ⟨a9, c9, rfl⟩ := hr9.shape
 have HB9 := Lib.hid (hb9)
 have HR9 := Lib.hid hr9
 have HS9 := Lib.hid hs9
 obtain ⟨n9, hn9⟩ : ∃ n, ds9.length = n := ⟨_, rfl⟩
 rw [hn9] at HR9 ⊢
 have HN9 := Lib.hid hn9
 clear hrs hr9 hs9 hb9 hn9
 clear p0 p1 pf pg pl pr0 pr1 prf prg prl
 have HKR := Lib.hid (HB3.out.later HB9.out)
 obtain ⟨z0, z1, zf, zg, zl, zr0, zr1, zrf, zrg, zrl⟩ := HKR.out.boxw
 go_wp2_with fail
 have HRS := Lib.hid (HB3.out.out2 HB9.out HR9.out (HQA.out.trans ((congrArg (fun s => redirsS (levS d).1 s x.redirs true) HQ3.out).trans HS9.out)))
 have HRB := Lib.hid (HB3.out.out2_res (dv' := .slice a9 n9 c9) (out' := q9) HB9.out)
 clear z0 z1 zf zg zl zr0 zr1 zrf zrg zrl
 obtain ⟨Z, hZ⟩ : ∃ Z, Z = ((w9.setCell ⟨w.heap.size + 2, 0, none⟩ (.string (S q9))).setCell ⟨w.heap.size + 2, 1, none⟩ (.slice a9 n9 c9)) := ⟨_, rfl⟩
 rw [← hZ] at HRS HRB
 have y0 := HRB.out.cell 0
 have y1 := HRB.out.cell 1
 simp at y0 y1
 try rw [← hZ]
 clear hZ
 refine bodyPost_ret (v := .agg #[.string (S q9), .slice a9 n9 c9]) (by simp [results, Tryz.results63, go_sem, y0, y1]) rfl HRS.out
end Go.Proofs.YtnackmnoldkihaaGreatDoor
