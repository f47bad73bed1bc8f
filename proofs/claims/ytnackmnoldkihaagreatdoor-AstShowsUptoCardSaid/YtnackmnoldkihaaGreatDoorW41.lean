/-
  The document's writer: commands that are joined.
-/
import Derived.Test.YtnackmnoldkihaaGreatDoorW40
set_option linter.unusedVariables false
set_option linter.unusedSimpArgs false
namespace Go.Proofs.YtnackmnoldkihaaGreatDoor
open Go.RowKit

theorem InX.later {w V U : World} {B : Nat} {t : TypeId} {cs : Array Value} {s : St} (h : InX w V B t cs s) (hb : Below V.heap.size V U) : InX w U B t cs s := by
 obtain ⟨⟨dv, q, ds, h1, h2⟩, h3⟩ := h
 exact ⟨⟨dv, q, ds, h1.later hb, h2⟩, h3.below hb h3.lt⟩
def signB (k : Int) : ByteArray := bif k == 2 then ⟨#[32, 124, 32]⟩ else bif k == 3 then ⟨#[32, 38, 38, 32]⟩ else ⟨#[32, 124, 124, 32]⟩
def signsC : Array Value := #[.string ⟨#[]⟩, .string ⟨#[]⟩, .string ⟨#[32, 124, 32]⟩, .string ⟨#[32, 38, 38, 32]⟩, .string ⟨#[32, 124, 124, 32]⟩]
theorem sign_at2 (g : Nat) (W : World) : (Instr.indexAt 125 (.pointer (some ⟨g, 0, none⟩)) (.int .i64 2)).run Tryz.prog W = .ok (.pointer (some ⟨g, 2, none⟩)) W := by kernel_rfl
theorem sign_at3 (g : Nat) (W : World) : (Instr.indexAt 125 (.pointer (some ⟨g, 0, none⟩)) (.int .i64 3)).run Tryz.prog W = .ok (.pointer (some ⟨g, 3, none⟩)) W := by kernel_rfl
theorem sign_at4 (g : Nat) (W : World) : (Instr.indexAt 125 (.pointer (some ⟨g, 0, none⟩)) (.int .i64 4)).run Tryz.prog W = .ok (.pointer (some ⟨g, 4, none⟩)) W := by kernel_rfl

theorem sign_at {xk : Int} (h : xk = 2 ∨ xk = 3 ∨ xk = 4) : ∃ xn : Nat, (∀ (g : Nat) (W : World), (Instr.indexAt 125 (.pointer (some ⟨g, 0, none⟩)) (.int .i64 xk)).run Tryz.prog W = .ok (.pointer (some ⟨g, xn, none⟩)) W) ∧ signsC[xn]? = some (.string (signB xk)) := by
 rcases h with rfl | rfl | rfl
 · exact ⟨2, sign_at2, rfl⟩
 · exact ⟨3, sign_at3, rfl⟩
 · exact ⟨4, sign_at4, rfl⟩
theorem sign_size (k : Int) : (signB k).size ≤ 4 := by
 rw [signB]
 cases k == 2 <;> cases k == 3 <;> decide
set_option maxHeartbeats 16000000 in
set_option maxRecDepth 100000 in
theorem rnode_join {B d : Nat} (hT : RTextAt B d) (hLn : RLineAt B) (hLs : RListAtS B d) (hNd : ∀ d', d = d' + 1 → RNodeAtS B d') (W0 : World) (dv0 : Value) (out0 : List UInt8) (ds0 : List DocV) (x : Nd) (c : List Value) (h : RW W0 B dv0 out0 ds0) (hc : NdC W0 B d x c) (hg : nodeG (levG d).1 (levG d).2.1 (gnD d) x = true) (xk : Int) (hk : x.kind = xk) (hkk : xk = 2 ∨ xk = 3 ∨ xk = 4) (hlen : (redirsS (levS d).1 (joinS (ndD d) (L (signB xk)) (stOf out0 ds0) x.lists false) x.redirs true).1.length ≤ lim) :
 Calls Tryz.prog 63 #[.agg #[.string (S out0), dv0], .agg c.toArray] W0 (RS W0 B (redirsS (levS d).1 (joinS (ndD d) (L (signB xk)) (stOf out0 ds0) x.lists false) x.redirs true)) := by
 obtain ⟨w, hw⟩ : ∃ w, w = W0 := ⟨_, rfl⟩
 subst hw
 have hBw := h.2.2.2
 rw [nodeG, Bool.and_eq_true, nodeF, Bool.and_eq_true, Bool.and_eq_true, Bool.and_eq_true, Bool.and_eq_true, Bool.and_eq_true, Bool.and_eq_true] at hg
 obtain ⟨hkb, hsh, hfas, hfw, hfr, hfl, hfn, hfa⟩ := hg
 obtain ⟨a1, c1, a2, c2, a3, c3, a4, c4, a5, c5, rfl, hxz, ⟨hn1, hn2, hn3, hn4, hn5⟩, hAs, hWs, hRd, hLs0, hAr⟩ := hc.open
 obtain ⟨n1, hl1⟩ : ∃ n, x.assigns.length = n := ⟨_, rfl⟩
 obtain ⟨n2, hl2⟩ : ∃ n, x.words.length = n := ⟨_, rfl⟩
 obtain ⟨n3, hl3⟩ : ∃ n, x.redirs.length = n := ⟨_, rfl⟩
 obtain ⟨n4, hl4⟩ : ∃ n, x.lists.length = n := ⟨_, rfl⟩
 obtain ⟨n5, hl5⟩ : ∃ n, x.arms.length = n := ⟨_, rfl⟩
 rw [hl1] at hn1 hAs ⊢
 rw [hl2] at hn2 hWs ⊢
 rw [hl3] at hn3 hRd ⊢
 rw [hl4] at hn4 hLs0 ⊢
 rw [hl5] at hn5 hAr ⊢
 have HAS := Lib.hid hAs
 have HWS := Lib.hid hWs
 have HRD := Lib.hid hRd
 have HLI := Lib.hid hLs0
 have HARM := Lib.hid hAr
 have N1 := Lib.hid hl1
 have N2 := Lib.hid hl2
 have N3 := Lib.hid hl3
 have N4 := Lib.hid hl4
 have N5 := Lib.hid hl5
 have GAS := Lib.hid (List.all_eq_true.1 hfas)
 have GWS := Lib.hid (List.all_eq_true.1 hfw)
 have GRD := Lib.hid hfr
 have GLI := Lib.hid (List.all_eq_true.1 hfl)
 have GLN := Lib.hid (List.all_eq_true.1 hfn)
 have GAR := Lib.hid (List.all_eq_true.1 hfa)
 have GSH := Lib.hid hsh
 have GKB := Lib.hid hkb
 have HT := Lib.hid hT
 have HLN := Lib.hid hLn
 have HLS := Lib.hid hLs
 have HND := Lib.hid hNd
 have HK := Lib.hid hk
 obtain ⟨a9, c9, rfl⟩ := h.shape
 obtain ⟨n0, hn0⟩ : ∃ n, ds0.length = n := ⟨_, rfl⟩
 rw [hk]
 have HB0 := Lib.hid (BW.start2 h 64 #[.int .i64 xk, .string x.name, .slice a1 n1 c1, .slice a2 n2 c2, .slice a3 n3 c3, .slice a4 n4 c4, .slice a5 n5 c5])
 rw [hn0] at HB0 ⊢
 obtain ⟨s0, hs0⟩ : ∃ s, stOf out0 ds0 = s := ⟨_, rfl⟩
 have HS0 := Lib.hid hs0
 rw [hs0] at hlen ⊢
 have HLEN := Lib.hid hlen
 clear hl1 hl2 hl3 hl4 hl5 hAs hWs hRd hLs0 hAr hfas hfw hfr hfl hfn hfa hsh hkb hT hLn hLs hNd hk h hc hn0 hs0 hlen
 have GNE : Hid (∀ y ∈ x.lists, y ≠ []) := Lib.hid (by
  have h1 := GSH.out
  rw [shapeF, HK.out] at h1
  have h2 : x.lists.all (fun l => !l.isEmpty) = true := by rcases hkk with e | e | e <;> (rw [e] at h1; exact h1)
  intro y hy e
  have := List.all_eq_true.1 h2 y hy
  rw [e] at this
  simp at this)
 obtain ⟨xn, hia, hxn⟩ := sign_at hkk
 have hfacts : ((xk == 1) = false) ∧ (((xk == 2) = true) ∨ ((xk == 2) = false ∧ (xk == 3) = true) ∨ ((xk == 2) = false ∧ (xk == 3) = false ∧ (xk == 4) = true)) := by
  rcases hkk with rfl | rfl | rfl <;> decide
 obtain ⟨t1, hfacts⟩ := hfacts
 obtain ⟨sg, hsg⟩ : ∃ s, signB xk = s := ⟨_, rfl⟩
 rw [hsg] at HLEN hxn ⊢
 have HXN := Lib.hid hxn
 have HLJ : Hid ((joinS (ndD d) (L sg) s0 x.lists false).1.length ≤ lim) := Lib.hid (Nat.le_trans (redirsS_grow (levS_grow d).1 _ _ _) HLEN.out)
 have HLT : Hid (∀ k, (joinS (ndD d) (L sg) s0 (x.lists.take k) false).1.length ≤ lim) := Lib.hid fun k => Nat.le_trans (join_take_le (ndD_grow d) (L sg) x.lists s0 false k) HLJ.out
 clear hkk hsg hxn
 go_enter Tryz.func63, Tryz.ntmps63
 go_upto_region 1 with fail
 obtain ⟨V, hV⟩ : ∃ V, V = ((w.alloc (.cells #[.string (S out0), .slice a9 n0 c9] 87)).alloc (.cells #[.int .i64 xk, .string x.name, .slice a1 n1 c1, .slice a2 n2 c2, .slice a3 n3 c3, .slice a4 n4 c4, .slice a5 n5 c5] 64)).alloc (.cells #[.string ⟨#[]⟩, .slice none 0 0] 87) := ⟨_, rfl⟩
 have HNB : Hid (Blk V (w.heap.size + 1) 64 #[.int .i64 xk, .string x.name, .slice a1 n1 c1, .slice a2 n2 c2, .slice a3 n3 c3, .slice a4 n4 c4, .slice a5 n5 c5]) := Lib.hid (by rw [hV]; exact (Blk.at (by simp)).alloc _)
 rw [← hV] at HB0 ⊢
 clear hV
 have HX0 : Hid (InX w V B 64 #[.int .i64 xk, .string x.name, .slice a1 n1 c1, .slice a2 n2 c2, .slice a3 n3 c3, .slice a4 n4 c4, .slice a5 n5 c5] s0) := Lib.hid ⟨⟨_, _, _, HB0.out, HS0.out⟩, HNB.out⟩
 obtain ⟨x0, x1, x2, x3, x4, x5, x6, xl⟩ := HNB.out.box7
 obtain ⟨nc, hnc⟩ : ∃ nc : Array Value, nc = #[.int .i64 xk, .string x.name, .slice a1 n1 c1, .slice a2 n2 c2, .slice a3 n3 c3, .slice a4 n4 c4, .slice a5 n5 c5] := ⟨_, rfl⟩
 rw [← hnc] at HX0
 have HNC := Lib.hid hnc
 have HV := Lib.hid HB0.out.res.lt
 clear hnc HNB
 rcases hfacts with t2 | ⟨t2, t3⟩ | ⟨t2, t3, t4⟩
 all_goals
  go_wp2_with fail
  obtain ⟨g, hg0⟩ : ∃ g, g = V.heap.size := ⟨_, rfl⟩
  obtain ⟨X, hX⟩ : ∃ X, X = V.alloc (.cells signsC 125) := ⟨_, rfl⟩
  have HGX : Hid (Blk X g 125 signsC) := Lib.hid (by rw [hX, hg0]; exact Blk.new _ _ _)
  have HBX : Hid (Below V.heap.size V X) := Lib.hid (by rw [hX]; exact bg)
  have HXX := Lib.hid (HX0.out.later HBX.out)
  rw [signsC] at hX
  have hgw : w.heap.size + 2 < g := by rw [hg0]; exact HV.out
  have HHX := Lib.hid hX
  have HHG := Lib.hid hg0
  clear hg0 hX x0 x1 x2 x3 x4 x5 x6 xl t1 t2
  try clear t3
  try clear t4
  rw [← HHX.out, ← HHG.out]
  go_loopw [9] (fun i U => ∃ (k : Nat), k ≤ n4 ∧ i = .int .i64 k ∧ InX w U B 64 nc (joinS (ndD d) (L sg) s0 (x.lists.take k) false) ∧ Blk U g 125 signsC) (fun i _ => n4 - (intOf i).toNat)
  case atStart => exact ⟨0, Nat.zero_le _, rfl, HXX.out, HGX.out⟩
  case round =>
   obtain ⟨k, hk, rfl, hb, hgb⟩ := hrel
   obtain ⟨da10, nd10, dc10, q10, ds10, hb10, hst10, hnd10, hak10⟩ := hb.open
   have HB10 := Lib.hid hb10
   have HST10 := Lib.hid hst10
   have HAK10 := Lib.hid hak10
   clear hb10 hst10 hnd10 hak10
   have HGB := Lib.hid hgb
   have HX := Lib.hid (HNC.out ▸ HAK10.out)
   clear hgb
   by_cases hlt : k < n4
   · obtain ⟨y, hy⟩ : ∃ y, x.lists[k]? = .some y := ⟨_, List.getElem?_eq_getElem (by rw [N4.out]; exact hlt)⟩
     obtain ⟨b0, o0, c, hi0, hbB0, hce0, ⟨yv, rfl, hyp⟩, _⟩ := HLI.out.at 61 25 Tryz.underlying61 (by kernel_rfl) hy
     have hmy := List.mem_of_getElem? hy
     obtain ⟨z, r, d', bz, oz, cz, hlz, hdd, hiz, hbz, hcz, hCz⟩ := hyp.head14 (List.length_pos_iff.2 (GNE.out y hmy))
     obtain ⟨la0, lc0, rfl, _⟩ := hyp.shape
     have HGZ : Hid ((levG d').2.2 z = true) := Lib.hid (by
      have h1 := GLN.out y hmy
      rw [hlz, List.all_cons, Bool.and_eq_true, gnD_of hdd] at h1
      exact h1.1)
     have HCZ := Lib.hid hCz
     obtain ⟨z1, y1, z2, y2, z3, y3, z4, y4, z5, y5, rfl, _⟩ := hCz.open
     have HNZ := Lib.hid (HND.out d' hdd)
     obtain ⟨qq, hqq⟩ : ∃ b, decide (0 < k) = b := ⟨_, rfl⟩
     have HS : Hid (joinS (ndD d) (L sg) s0 (x.lists.take (k + 1)) false = (levS d').2.2 (bif qq then putS (stOf q10 ds10) (L sg) else stOf q10 ds10) z) := Lib.hid (by
      rw [take_snoc' hy, join_snoc, ← HST10.out, take_empty (by rw [N4.out]; exact hlt), Bool.false_or, hlz, oneS, hqq, ndD_of hdd])
     have HLX : Hid (((levS d').2.2 (bif qq then putS (stOf q10 ds10) (L sg) else stOf q10 ds10) z).1.length ≤ lim) := Lib.hid (by rw [← HS.out]; exact HLT.out (k + 1))
     have HZ1 : Hid ((bif qq then putS (stOf q10 ds10) (L sg) else stOf q10 ds10).1.length ≤ lim) := Lib.hid (Nat.le_trans ((levS_grow d').2.2 _ _) HLX.out)
     have HQQ := Lib.hid hqq
     have hbw0 := Nat.lt_of_lt_of_le hbB0 hBw
     have hbwz := Nat.lt_of_lt_of_le hbz hBw
     have hbg0 : b0 ≠ w.heap.size := by omega
     have hbgz : bz ≠ w.heap.size := by omega
     have E0 := Lib.hid (hce0 0 _ rfl)
     have F0 := Lib.hid (hcz 0 _ rfl)
     have F1 := Lib.hid (hcz 1 _ rfl)
     have F2 := Lib.hid (hcz 2 _ rfl)
     have F3 := Lib.hid (hcz 3 _ rfl)
     have F4 := Lib.hid (hcz 4 _ rfl)
     have F5 := Lib.hid (hcz 5 _ rfl)
     have F6 := Lib.hid (hcz 6 _ rfl)
     rw [Nat.add_zero] at E0 F0
     obtain ⟨ny0, hny⟩ : ∃ n, y.length = n := ⟨_, rfl⟩
     rw [hny] at E0 hiz
     clear hy hce0 hyp hmy hlz hdd hCz hcz hny hqq
     obtain ⟨x0, x1, x2, x3, x4, x5, x6, xl⟩ := HX.out.box7
     go_upto_if 79 with fail
     clear x1 x2 x3 x4 x6
     go_cut [] (fun U => InX w U B 64 nc (bif qq then putS (stOf q10 ds10) (L sg) else stOf q10 ds10) ∧ Blk U g 125 signsC)
     case first =>
      obtain ⟨p0, p1, pf, pg, pl, pr0, pr1, prf, prg, prl⟩ := HB10.out.boxw
      by_cases hk0 : 0 < k
      case neg =>
       have hk1 : ¬ ((0 : Int) < (k : Int)) := by omega
       have hq : qq = false := by rw [← HQQ.out]; simp; omega
       subst hq
       go_wp2_with fail
       go_meet
       exact ⟨⟨⟨_, q10, ds10, HB10.out, rfl⟩, HAK10.out⟩, HGB.out⟩
      case pos =>
       have hk1 : (0 : Int) < (k : Int) := by omega
       have hq : qq = true := by rw [← HQQ.out]; simp; omega
       subst hq
       have CP := Lib.hid (fun U (hU : Below wr.heap.size wr U) => put_at B U _ q10 ds10 sg (HB10.out.rw.below hU) (put_len (s := stOf q10 ds10) (ds := ds10) rfl HZ1.out))
       have gk : wr.cell? ⟨g, xn, none⟩ = some (.string sg) := (HGB.out.cell xn).trans HXN.out
       have hgl := HGB.out.lt
       have hgg : g ≠ w.heap.size := by omega
       have hia2 := hia g
       go_upto_region 23 with fail
       clear x5
       refine wp_region_held_drew (S := fun w' => w'.cell? ⟨w.heap.size + 1, 0, none⟩ = some (.int .i64 xk) ∧ w'.cell? ⟨g, xn, none⟩ = some (.string sg)) (by kernel_rfl) ?_ (fun hHeld => ?_)
       · exact ⟨x0, gk⟩
       refine tk 1 ?_
       refine tk 2 ?_
       refine tk 3 ?_
       refine tk 4 ?_
       try simp only [Act.put, List.getElem_toArray, List.getElem_cons_zero, List.getElem_cons_succ, List.setIfInBounds_toArray, List.set_cons_zero, List.set_cons_succ]
       refine wpAnyH_ready (rs := [0]) (by kernel_rfl) (by simp) ?_
       refine AllReadyH.cons rfl (fun K hK => ?_) AllReadyH.nil
       go_simp
       refine hK.out _ _ ?_ (fun hHeld => ?_)
       · exact ⟨x0, gk⟩
       clear hK K
       try simp only [Act.put, List.getElem_toArray, List.getElem_cons_zero, List.getElem_cons_succ, List.setIfInBounds_toArray, List.set_cons_zero, List.set_cons_succ]
       refine wpAnyH_ready (rs := [5]) (by kernel_rfl) (by simp) ?_
       refine AllReadyH.cons rfl (fun K hK => ?_) AllReadyH.nil
       go_simp
       go_at_call 83
       refine (CP.out _ (Below.drew (Below.refl _ _))).mono ?_
       rintro e w11 hrs
       obtain ⟨dv11, q11, ds11, rfl, hs11, hr11, hb11⟩ := hrs.st
       obtain ⟨a11, c11, rfl⟩ := hr11.shape
       have HB11 := Lib.hid (((Below.refl _ _).drew).trans (show Below wr.heap.size wr.drew w11 from hb11))
       have HR11 := Lib.hid hr11
       have HS11 := Lib.hid hs11
       obtain ⟨n11, hn11⟩ : ∃ n, ds11.length = n := ⟨_, rfl⟩
       rw [hn11] at HR11 ⊢
       have HN11 := Lib.hid hn11
       clear hrs hr11 hs11 hb11 hn11
       have HK11 := Lib.hid (HB10.out.later HB11.out)
       clear p0 p1 pf pg pl pr0 pr1 prf prg prl
       obtain ⟨p0, p1, pf, pg, pl, pr0, pr1, prf, prg, prl⟩ := HK11.out.boxw
       go_wp2_with fail
       refine hK.out _ _ ?_ (fun hHeld => ?_)
       · exact ⟨(HB11.out.cell xl).trans x0, (HB11.out.cell hgl).trans gk⟩
       clear hK K
       try simp only [Act.put, List.getElem_toArray, List.getElem_cons_zero, List.getElem_cons_succ, List.setIfInBounds_toArray, List.set_cons_zero, List.set_cons_succ]
       refine wpAnyH_ready (rs := [6]) (by kernel_rfl) (by simp) ?_
       refine AllReadyH.cons rfl (fun K hK => ?_) AllReadyH.nil
       go_simp
       refine hK.out _ _ ?_ (fun hHeld => ?_)
       · exact ⟨cell_far2 ((HB11.out.cell xl).trans x0) (by omega), cell_far2 ((HB11.out.cell hgl).trans gk) hgg⟩
       clear hK K
       try simp only [Act.put, List.getElem_toArray, List.getElem_cons_zero, List.getElem_cons_succ, List.setIfInBounds_toArray, List.set_cons_zero, List.set_cons_succ]
       refine wpAnyH_done (by kernel_rfl) ?_ _
       have HE11 := Lib.hid (HB10.out.putX HAK10.out HB11.out HR11.out HS11.out)
       clear p0 p1 pf pg pl pr0 pr1 prf prg prl
       clear hHeld
       go_wp2_with fail
       go_meet
       exact ⟨HE11.out, (HGB.out.below HB11.out hgl).far2 hgg _ _⟩
     case rest =>
      clear HB10 HAK10 HST10 HX x0 x5 xl HGB HZ1
      obtain ⟨hcx, hgb⟩ := hcut
      obtain ⟨da12, nd12, dc12, q12, ds12, hb12, hst12, hnd12, hak12⟩ := hcx.open
      have HB12 := Lib.hid hb12
      have HST12 := Lib.hid hst12
      have HAK12 := Lib.hid hak12
      clear hb12 hst12 hnd12 hak12
      have HGB := Lib.hid hgb
      have HX := Lib.hid (HNC.out ▸ HAK12.out)
      have HLO := Lib.hid HB12.out.low
      have HLX2 : Hid (((levS d').2.2 (stOf q12 ds12) z).1.length ≤ lim) := Lib.hid (by rw [HST12.out]; exact HLX.out)
      have CN : Hid (∀ U, Below wc.heap.size wc U → _) := Lib.hid fun U (hU : Below wc.heap.size wc U) => HNZ.out U _ q12 ds12 z _ (HB12.out.rw.below hU) (HCZ.out.later2 ((HLO.out.trans (hU.mono HLO.out.size)).mono hBw)) HGZ.out HLX2.out
      have hbr0 : b0 < wc.heap.size := Nat.lt_of_lt_of_le hbw0 HLO.out.size
      have hbrz : bz < wc.heap.size := Nat.lt_of_lt_of_le hbwz HLO.out.size
      clear hgb
      obtain ⟨x0, x1, x2, x3, x4, x5, x6, xl⟩ := HX.out.box7
      go_upto_region 24 with fail
      have e0 := (HLO.out.cell hbw0).trans E0.out
      have f0 := (HLO.out.cell hbwz).trans F0.out
      have f1 := (HLO.out.cell hbwz).trans F1.out
      have f2 := (HLO.out.cell hbwz).trans F2.out
      have f3 := (HLO.out.cell hbwz).trans F3.out
      have f4 := (HLO.out.cell hbwz).trans F4.out
      have f5 := (HLO.out.cell hbwz).trans F5.out
      have f6 := (HLO.out.cell hbwz).trans F6.out
      clear x0 x1 x2 x3 x4 x6
      obtain ⟨p0, p1, pf, pg, pl, pr0, pr1, prf, prg, prl⟩ := HB12.out.boxw
      refine wp_region_held_drew (S := fun w' => w'.cell? ⟨w.heap.size + 1, 5, none⟩ = some (.slice a4 n4 c4) ∧ w'.cell? ⟨b0, o0, none⟩ = some (.slice la0 ny0 lc0) ∧ w'.cell? ⟨bz, oz, none⟩ = some (.int .i64 z.kind) ∧ w'.cell? ⟨bz, oz + 1, none⟩ = some (.string z.name) ∧ w'.cell? ⟨bz, oz + 2, none⟩ = some (.slice z1 z.assigns.length y1) ∧ w'.cell? ⟨bz, oz + 3, none⟩ = some (.slice z2 z.words.length y2) ∧ w'.cell? ⟨bz, oz + 4, none⟩ = some (.slice z3 z.redirs.length y3) ∧ w'.cell? ⟨bz, oz + 5, none⟩ = some (.slice z4 z.lists.length y4) ∧ w'.cell? ⟨bz, oz + 6, none⟩ = some (.slice z5 z.arms.length y5)) (by kernel_rfl) ?_ (fun hHeld => ?_)
      · exact ⟨x5, e0, f0, f1, f2, f3, f4, f5, f6⟩
      refine tk 1 ?_
      refine tk 2 ?_
      refine tk 3 ?_
      refine tk 4 ?_
      refine tk 5 ?_
      refine tk 6 ?_
      refine tk 7 ?_
      try simp only [Act.put, List.getElem_toArray, List.getElem_cons_zero, List.getElem_cons_succ, List.setIfInBounds_toArray, List.set_cons_zero, List.set_cons_succ]
      refine wpAnyH_ready (rs := [0]) (by kernel_rfl) (by simp) ?_
      refine AllReadyH.cons rfl (fun K hK => ?_) AllReadyH.nil
      go_simp
      refine hK.out _ _ ?_ (fun hHeld => ?_)
      · exact ⟨x5, e0, f0, f1, f2, f3, f4, f5, f6⟩
      clear hK K
      try simp only [Act.put, List.getElem_toArray, List.getElem_cons_zero, List.getElem_cons_succ, List.setIfInBounds_toArray, List.set_cons_zero, List.set_cons_succ]
      refine wpAnyH_ready (rs := [8]) (by kernel_rfl) (by simp) ?_
      refine AllReadyH.cons rfl (fun K hK => ?_) AllReadyH.nil
      go_simp
      go_at_call 63
      refine (CN.out _ (Below.drew (Below.refl _ _))).mono ?_
      rintro e w13 hrs
      obtain ⟨dv13, q13, ds13, rfl, hs13, hr13, hb13⟩ := hrs.st
      obtain ⟨a13, c13, rfl⟩ := hr13.shape
      have HB13 := Lib.hid (((Below.refl _ _).drew).trans (show Below wc.heap.size wc.drew w13 from hb13))
      have HR13 := Lib.hid hr13
      have HS13 := Lib.hid hs13
      obtain ⟨n13, hn13⟩ : ∃ n, ds13.length = n := ⟨_, rfl⟩
      rw [hn13] at HR13 ⊢
      have HN13 := Lib.hid hn13
      clear hrs hr13 hs13 hb13 hn13
      have HK13 := Lib.hid (HB12.out.later HB13.out)
      clear p0 p1 pf pg pl pr0 pr1 prf prg prl
      obtain ⟨p0, p1, pf, pg, pl, pr0, pr1, prf, prg, prl⟩ := HK13.out.boxw
      go_wp2_with fail
      refine hK.out _ _ ?_ (fun hHeld => ?_)
      · exact ⟨(HB13.out.cell xl).trans x5, (HB13.out.cell hbr0).trans e0, (HB13.out.cell hbrz).trans f0, (HB13.out.cell hbrz).trans f1, (HB13.out.cell hbrz).trans f2, (HB13.out.cell hbrz).trans f3, (HB13.out.cell hbrz).trans f4, (HB13.out.cell hbrz).trans f5, (HB13.out.cell hbrz).trans f6⟩
      clear hK K
      try simp only [Act.put, List.getElem_toArray, List.getElem_cons_zero, List.getElem_cons_succ, List.setIfInBounds_toArray, List.set_cons_zero, List.set_cons_succ]
      refine wpAnyH_ready (rs := [9]) (by kernel_rfl) (by simp) ?_
      refine AllReadyH.cons rfl (fun K hK => ?_) AllReadyH.nil
      go_simp
      refine hK.out _ _ ?_ (fun hHeld => ?_)
      · exact ⟨cell_far2 ((HB13.out.cell xl).trans x5) (by omega), cell_far2 ((HB13.out.cell hbr0).trans e0) hbg0, cell_far2 ((HB13.out.cell hbrz).trans f0) hbgz, cell_far2 ((HB13.out.cell hbrz).trans f1) hbgz, cell_far2 ((HB13.out.cell hbrz).trans f2) hbgz, cell_far2 ((HB13.out.cell hbrz).trans f3) hbgz, cell_far2 ((HB13.out.cell hbrz).trans f4) hbgz, cell_far2 ((HB13.out.cell hbrz).trans f5) hbgz, cell_far2 ((HB13.out.cell hbrz).trans f6) hbgz⟩
      clear hK K
      try simp only [Act.put, List.getElem_toArray, List.getElem_cons_zero, List.getElem_cons_succ, List.setIfInBounds_toArray, List.set_cons_zero, List.set_cons_succ]
      refine wpAnyH_done (by kernel_rfl) ?_ _
      have HE13 := Lib.hid (HB12.out.putX HAK12.out HB13.out HR13.out HS13.out)
      clear p0 p1 pf pg pl pr0 pr1 prf prg prl
      clear hHeld
      go_wp2_with fail
      go_roundw
      case rel => exact ⟨k + 1, by omega, by go_num, by rw [HS.out, ← HST12.out]; exact HE13.out, (HGB.out.below HB13.out HGB.out.lt).far2 (by omega) _ _⟩
      case measure => simp [intOf]; omega
   · have HSE : Hid (joinS (ndD d) (L sg) s0 x.lists false = stOf q10 ds10) := Lib.hid (by rw [HST10.out, List.take_of_length_le (by rw [N4.out]; omega)])
     have HLR : Hid ((redirsS (levS d).1 (stOf q10 ds10) x.redirs true).1.length ≤ lim) := Lib.hid (by rw [← HSE.out]; exact HLEN.out)
     obtain ⟨x0, x1, x2, x3, x4, x5, x6, xl⟩ := HX.out.box7
     have HLO9 := Lib.hid HB10.out.low
     have CR := Lib.hid (rredirs_any HT.out HB10.out.rw (HRD.out.imp (fun xs hs => hs.below (HLO9.out.mono hBw)) fun _ _ _ h => h.keep fun _ _ _ _ hs => hs.below (HLO9.out.mono hBw)) GRD.out true HLR.out)
     obtain ⟨p0, p1, pf, pg, pl, pr0, pr1, prf, prg, prl⟩ := HB10.out.boxw
     go_wp2_with fail
     refine CR.out.mono ?_
     rintro e w9 hrs
     obtain ⟨dv9, q9, ds9, rfl, hs9, hr9, hb9⟩ := hrs.st
     obtain ⟨a9, c9, rfl⟩ := hr9.shape
     have HB9 := Lib.hid (hb9)
     have HR9 := Lib.hid hr9
     have HS9 := Lib.hid hs9
     obtain ⟨n9, hn9⟩ : ∃ n, ds9.length = n := ⟨_, rfl⟩
     rw [hn9] at HR9 ⊢
     have HN9 := Lib.hid hn9
     clear hrs hr9 hs9 hb9 hn9
     clear p0 p1 pf pg pl pr0 pr1 prf prg prl
     have HKR := Lib.hid (HB10.out.later HB9.out)
     obtain ⟨z0, z1, zf, zg, zl, zr0, zr1, zrf, zrg, zrl⟩ := HKR.out.boxw
     go_wp2_with fail
     have HRS := Lib.hid (HB10.out.out2 HB9.out HR9.out ((congrArg (fun s => redirsS (levS d).1 s x.redirs true) HSE.out).trans HS9.out))
     have HRB := Lib.hid (HB10.out.out2_res (dv' := .slice a9 n9 c9) (out' := q9) HB9.out)
     clear z0 z1 zf zg zl zr0 zr1 zrf zrg zrl
     obtain ⟨Z, hZ⟩ : ∃ Z, Z = ((w9.setCell ⟨w.heap.size + 2, 0, none⟩ (.string (S q9))).setCell ⟨w.heap.size + 2, 1, none⟩ (.slice a9 n9 c9)) := ⟨_, rfl⟩
     rw [← hZ] at HRS HRB
     have y0 := HRB.out.cell 0
     have y1 := HRB.out.cell 1
     simp at y0 y1
     try rw [← hZ]
     clear hZ
     refine bodyPost_ret (v := .agg #[.string (S q9), .slice a9 n9 c9]) (by simp [results, Tryz.results63, go_sem, y0, y1]) rfl HRS.out
end Go.Proofs.YtnackmnoldkihaaGreatDoor
