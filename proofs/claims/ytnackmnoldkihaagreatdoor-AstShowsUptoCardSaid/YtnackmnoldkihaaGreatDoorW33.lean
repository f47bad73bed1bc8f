/-
  The document's writer: line.
-/
import Derived.Test.YtnackmnoldkihaaGreatDoorW32
import Derived.Test.YtnackmnoldkihaaGreatDoorW26
import Derived.StillTailTactics
set_option linter.unusedVariables false
set_option linter.unusedSimpArgs false
/-
  The document's writer: list, a level on.
-/
namespace Go.Proofs.YtnackmnoldkihaaGreatDoor
open Go.RowKit

def RLineAt (B : Nat) : Prop := ∀ (W : World) (dv : Value) (out : List UInt8) (ds : List DocV), RW W B dv out ds → (lineS (stOf out ds)).1.length ≤ lim →
 Calls Tryz.prog 64 #[.agg #[.string (S out), dv]] W (RS W B (lineS (stOf out ds)))
def RNodeAtS (B d : Nat) : Prop := ∀ (W : World) (dv : Value) (out : List UInt8) (ds : List DocV) (x : Nd) (c : List Value), RW W B dv out ds → NdC W B d x c → (levG d).2.2 x = true → ((levS d).2.2 (stOf out ds) x).1.length ≤ lim →
 Calls Tryz.prog 63 #[.agg #[.string (S out), dv], .agg c.toArray] W (RS W B ((levS d).2.2 (stOf out ds) x))
/-- What came of a call. -/
theorem RS.st {W W' : World} {B : Nat} {s : St} {e : Ending} (h : RS W B s e W') : ∃ dv q ds, e = .returned (.agg #[.string (S q), dv]) ∧ s = stOf q ds ∧ RW W' B dv q ds ∧ Below W.heap.size W W' := by
 obtain ⟨dv, ds, h1, h2, h3, h4⟩ := h
 exact ⟨dv, s.1, ds, h1, by rw [stOf, h2], h3, h4⟩
theorem cell_far2 {U : World} {b o g : Nat} {u x y : Value} (h : U.cell? ⟨b, o, none⟩ = some u) (hb : b ≠ g) : ((U.setCell ⟨g, 0, none⟩ x).setCell ⟨g, 1, none⟩ y).cell? ⟨b, o, none⟩ = some u := by
 rw [World.cell?_setCell_other _ _ _ _ (fun e => by injection e with e1 _; exact hb e1.symm), World.cell?_setCell_other _ _ _ _ (fun e => by injection e with e1 _; exact hb e1.symm), h]
theorem stOf_fst (q : List UInt8) (ds : List DocV) : (stOf q ds).1 = q := rfl

theorem rlist_zero (B : Nat) (h0 : ∀ (W : World) (dv : Value) (q : List UInt8) (ds : List DocV) (a : Option Addr) (cap : Nat), RW W B dv q ds → Calls Tryz.prog 50 #[.agg #[.string (S q), dv], .slice a 0 cap] W (RS W B (stOf q ds))) : RListAtS B 0 := by
 intro W dv q ds l v h hl _ _
 rw [NdsIn] at hl
 obtain ⟨a, cap, rfl⟩ := hl.shape
 obtain rfl := hl.zero
 exact h0 W dv q ds a cap h

set_option maxHeartbeats 4000000 in
set_option maxRecDepth 100000 in
theorem rlist_succ {B d : Nat} (hLn : RLineAt B) (hNd : RNodeAtS B d) : RListAtS B (d + 1) := by
 intro w dv0 out0 ds0 l v h hl hg hlen
 rw [NdsIn.succ] at hl
 obtain ⟨a, cap, rfl, hz⟩ := hl.len
 obtain ⟨n, hn⟩ : ∃ n, l.length = n := ⟨_, rfl⟩
 have hBw := h.2.2.2
 have HLS : Hid (∀ s : St, (levS (d + 1)).2.1 s l = l.foldl (fun s x => lineS ((levS d).2.2 s x)) s) := Lib.hid fun _ => rfl
 have HGR : Hid (∀ (l' : List Nd) (s : St), s.1.length ≤ (l'.foldl (fun s x => lineS ((levS d).2.2 s x)) s).1.length) := Lib.hid fun l' s => fold_grow (f := fun s x => lineS ((levS d).2.2 s x)) (fun s x => Nat.le_trans ((levS_grow d).2.2 s x) (lineS_grow _)) l' s
 obtain ⟨F, hF⟩ : ∃ F : St → Nd → St, F = fun s x => lineS ((levS d).2.2 s x) := ⟨_, rfl⟩
 have HF : Hid (∀ s x, F s x = lineS ((levS d).2.2 s x)) := Lib.hid fun s x => by rw [hF]
 rw [← hF] at HLS HGR
 have HLEN : Hid ((l.foldl F (stOf out0 ds0)).1.length ≤ lim) := Lib.hid (by rw [← HLS.out]; exact hlen)
 have HG : Hid (∀ x ∈ l, (levG d).2.2 x = true) := Lib.hid (List.all_eq_true.1 hg)
 obtain ⟨a9, c9, rfl⟩ := h.shape
 have HB0 := Lib.hid (BW.start1 h)
 obtain ⟨n0, hn0⟩ : ∃ n, ds0.length = n := ⟨_, rfl⟩
 rw [hn0] at HB0 ⊢
 rw [hn] at hl hz ⊢
 have HL := Lib.hid hl
 have HN := Lib.hid hn
 have HND := Lib.hid hNd
 have HLN := Lib.hid hLn
 rw [HLS.out]
 clear hl hn hg hlen h hLn hNd hF HLS hn0
 go_enter Tryz.func50, Tryz.ntmps50
 go_upto_region 1 with fail
 obtain ⟨V, hV⟩ : ∃ V, V = (w.alloc (.cells #[.string (S out0), .slice a9 n0 c9] 87)).alloc (.cells #[.string ⟨#[]⟩, .slice none 0 0] 87) := ⟨_, rfl⟩
 rw [← hV] at HB0 ⊢
 clear hV
 go_wp2_with fail
 go_loopw [5] (fun i V => ∃ (k : Nat) (dv : Value) (q : List UInt8) (ds : List DocV), k ≤ n ∧ i = .int .i64 k ∧ BW w V B 1 dv q ds ∧ stOf q ds = (l.take k).foldl F (stOf out0 ds0)) (fun i _ => n - (intOf i).toNat)
 case atStart => exact ⟨0, _, out0, ds0, Nat.zero_le _, rfl, HB0.out, rfl⟩
 case round =>
  obtain ⟨k, dv, q, ds, hk, rfl, hb, hst⟩ := hrel
  have HB := Lib.hid hb
  have HST := Lib.hid hst
  clear hb hst
  obtain ⟨da, dc, rfl⟩ := HB.out.rw.shape
  obtain ⟨nd, hnd⟩ : ∃ n, ds.length = n := ⟨_, rfl⟩
  rw [hnd] at HB
  obtain ⟨p0, p1, pf, pg, pl, pr0, pr1, prf, prg, prl⟩ := HB.out.boxw
  by_cases hlt : k < n
  · obtain ⟨x, hx⟩ : ∃ x, l[k]? = .some x := ⟨_, List.getElem?_eq_getElem (by rw [HN.out]; exact hlt)⟩
    obtain ⟨b, o, c, hi, hbB, hce, hC, _⟩ := HL.out.at 25 64 Tryz.underlying25 (by kernel_rfl) hx
    have HX : Hid ((l.take (k + 1)).foldl F (stOf out0 ds0) = F (stOf q ds) x) := Lib.hid (by rw [List.take_add_one, hx, HST.out, List.foldl_append]; rfl)
    have hsz : (F (stOf q ds) x).1.length ≤ lim := by
     refine Nat.le_trans ?_ HLEN.out
     rw [← HX.out]
     have := HGR.out (l.drop (k + 1)) ((l.take (k + 1)).foldl F (stOf out0 ds0))
     rwa [← List.foldl_append, List.take_append_drop] at this
    rw [HF.out] at hsz
    have hgx := HG.out x (List.mem_of_getElem? hx)
    have hbw := Nat.lt_of_lt_of_le hbB hBw
    have HC := Lib.hid hC
    obtain ⟨_, av, wv, rv, lv, mv, rfl, _⟩ := hC
    have HNB := Lib.hid HB.out.low
    have e0 := (HNB.out.cell hbw).trans (hce 0 _ rfl)
    have e1 := (HNB.out.cell hbw).trans (hce 1 _ rfl)
    have e2 := (HNB.out.cell hbw).trans (hce 2 _ rfl)
    have e3 := (HNB.out.cell hbw).trans (hce 3 _ rfl)
    have e4 := (HNB.out.cell hbw).trans (hce 4 _ rfl)
    have e5 := (HNB.out.cell hbw).trans (hce 5 _ rfl)
    have e6 := (HNB.out.cell hbw).trans (hce 6 _ rfl)
    rw [Nat.add_zero] at e0
    have hbr : b < wr.heap.size := Nat.lt_of_lt_of_le hbw HNB.out.size
    have hbg : b ≠ w.heap.size := by omega
    have CN : Hid (∀ V, Below wr.heap.size wr V → Calls Tryz.prog 63 #[.agg #[.string (S q), .slice da nd dc], .agg #[.int .i64 x.kind, .string x.name, av, wv, rv, lv, mv]] V (RS V B ((levS d).2.2 (stOf q ds) x))) := Lib.hid fun V hV =>
     HND.out V _ q ds x _ (by rw [← hnd]; rw [← hnd] at HB; exact HB.out.rw.below hV) ((HC.out.later2 ((HNB.out.trans (hV.mono HNB.out.size)).mono hBw))) hgx (Nat.le_trans (lineS_grow _) hsz)
    clear hx hce hnd
    go_wp2_with fail
    refine wp_region_held_drew (S := fun w' => w'.cell? ⟨b, o, none⟩ = some (.int .i64 x.kind) ∧ w'.cell? ⟨b, o + 1, none⟩ = some (.string x.name) ∧ w'.cell? ⟨b, o + 2, none⟩ = some av ∧ w'.cell? ⟨b, o + 3, none⟩ = some wv ∧ w'.cell? ⟨b, o + 4, none⟩ = some rv ∧ w'.cell? ⟨b, o + 5, none⟩ = some lv ∧ w'.cell? ⟨b, o + 6, none⟩ = some mv) (by kernel_rfl) ?_ (fun hHeld => ?_)
    · exact ⟨e0, e1, e2, e3, e4, e5, e6⟩
    refine tk 1 ?_
    refine tk 2 ?_
    refine tk 3 ?_
    refine tk 4 ?_
    try simp only [Act.put, List.getElem_toArray, List.getElem_cons_zero, List.getElem_cons_succ, List.setIfInBounds_toArray, List.set_cons_zero, List.set_cons_succ]
    refine wpAnyH_ready (rs := [0]) (by kernel_rfl) (by simp) ?_
    refine AllReadyH.cons rfl (fun K hK => ?_) AllReadyH.nil
    go_simp
    refine hK.out _ _ ?_ (fun hHeld => ?_)
    · exact ⟨e0, e1, e2, e3, e4, e5, e6⟩
    clear hK K
    try simp only [Act.put, List.getElem_toArray, List.getElem_cons_zero, List.getElem_cons_succ, List.setIfInBounds_toArray, List.set_cons_zero, List.set_cons_succ]
    refine wpAnyH_ready (rs := [5]) (by kernel_rfl) (by simp) ?_
    refine AllReadyH.cons rfl (fun K hK => ?_) AllReadyH.nil
    go_simp
    go_at_call 63
    refine (CN.out _ bg).mono ?_
    rintro e w1 hrs
    obtain ⟨dv1, q1, ds1, rfl, hs1, hr1, hb1⟩ := hrs.st
    clear hrs
    rw [hs1] at hsz
    have hn1 := hb1.size
    go_wp2_with fail
    refine hK.out _ _ ?_ (fun hHeld => ?_)
    · exact ⟨(hb1.cell hbr).trans e0, (hb1.cell hbr).trans e1, (hb1.cell hbr).trans e2, (hb1.cell hbr).trans e3, (hb1.cell hbr).trans e4, (hb1.cell hbr).trans e5, (hb1.cell hbr).trans e6⟩
    clear hK K
    try simp only [Act.put, List.getElem_toArray, List.getElem_cons_zero, List.getElem_cons_succ, List.setIfInBounds_toArray, List.set_cons_zero, List.set_cons_succ]
    refine wpAnyH_ready (rs := [6]) (by kernel_rfl) (by simp) ?_
    refine AllReadyH.cons rfl (fun K hK => ?_) AllReadyH.nil
    go_simp
    go_at_call 64
    refine (HLN.out w1 dv1 q1 ds1 hr1 hsz).mono ?_
    rintro e w2 hrs
    obtain ⟨dv2, q2, ds2, rfl, hs2, hr2, hb2⟩ := hrs.st
    have HB2 : Hid (Below wr.heap.size wr w2) := Lib.hid (((Below.refl _ _).drew).trans (show Below wr.heap.size wr.drew w2 from hb1.trans (hb2.mono hn1)))
    obtain ⟨a2, c2, rfl⟩ := hr2.shape
    have HBB := Lib.hid (HB.out.later HB2.out)
    have HR2 := Lib.hid hr2
    have HX2 : Hid ((l.take (k + 1)).foldl F (stOf out0 ds0) = stOf q2 ds2) := Lib.hid (by rw [HX.out, HF.out, hs1, hs2])
    obtain ⟨nd2, hnd2⟩ : ∃ n, ds2.length = n := ⟨_, rfl⟩
    rw [hnd2] at HR2
    have HN2 := Lib.hid hnd2
    clear hrs hr1 hs1 hs2 hr2 hb1 hb2 hsz
    rw [hnd2]
    clear hnd2
    clear p0 p1 pf pg pl pr0 pr1 prf prg prl
    obtain ⟨p0, p1, pf, pg, pl, pr0, pr1, prf, prg, prl⟩ := HBB.out.boxw
    go_wp2_with fail
    refine hK.out _ _ ?_ (fun hHeld => ?_)
    · exact ⟨(HB2.out.cell hbr).trans e0, (HB2.out.cell hbr).trans e1, (HB2.out.cell hbr).trans e2, (HB2.out.cell hbr).trans e3, (HB2.out.cell hbr).trans e4, (HB2.out.cell hbr).trans e5, (HB2.out.cell hbr).trans e6⟩
    clear hK K
    try simp only [Act.put, List.getElem_toArray, List.getElem_cons_zero, List.getElem_cons_succ, List.setIfInBounds_toArray, List.set_cons_zero, List.set_cons_succ]
    refine wpAnyH_ready (rs := [7]) (by kernel_rfl) (by simp) ?_
    refine AllReadyH.cons rfl (fun K hK => ?_) AllReadyH.nil
    go_simp
    refine hK.out _ _ ?_ (fun hHeld => ?_)
    · exact ⟨cell_far2 ((HB2.out.cell hbr).trans e0) hbg, cell_far2 ((HB2.out.cell hbr).trans e1) hbg, cell_far2 ((HB2.out.cell hbr).trans e2) hbg, cell_far2 ((HB2.out.cell hbr).trans e3) hbg, cell_far2 ((HB2.out.cell hbr).trans e4) hbg, cell_far2 ((HB2.out.cell hbr).trans e5) hbg, cell_far2 ((HB2.out.cell hbr).trans e6) hbg⟩
    clear hK K
    try simp only [Act.put, List.getElem_toArray, List.getElem_cons_zero, List.getElem_cons_succ, List.setIfInBounds_toArray, List.set_cons_zero, List.set_cons_succ]
    refine wpAnyH_done (by kernel_rfl) ?_ _
    have HBE := Lib.hid (HB.out.put HB2.out HR2.out)
    obtain ⟨V2, hV2⟩ : ∃ V2, V2 = (w2.setCell ⟨w.heap.size, 0, none⟩ (.string (S q2))).setCell ⟨w.heap.size, 1, none⟩ (.slice a2 nd2 c2) := ⟨_, rfl⟩
    rw [← hV2] at HBE ⊢
    clear hHeld hV2 e0 e1 e2 e3 e4 e5 e6
    clear p0 p1 pf pg pl pr0 pr1 prf prg prl
    go_wp2_with fail
    go_roundw
    case rel => exact ⟨k + 1, _, q2, ds2, by omega, by go_num, HBE.out, HX2.out.symm⟩
    case measure => simp [intOf]; omega
  · have HR : Hid (l.foldl F (stOf out0 ds0) = stOf q ds) := Lib.hid (by rw [HST.out, List.take_of_length_le (by rw [HN.out]; omega)])
    clear p0 p1 pf pg pl pr0 pr1 prf prg prl
    obtain ⟨z0, z1, zf, zg, zl, zr0, zr1, zrf, zrg, zrl⟩ := HB.out.boxw
    go_wp2_with fail
    have HRS := Lib.hid (HB.out.back HR.out)
    have HRB := Lib.hid HB.out.back_res
    clear z0 z1 zf zg zl zr0 zr1 zrf zrg zrl
    obtain ⟨Z, hZ⟩ : ∃ Z, Z = ((wr.setCell ⟨w.heap.size + 1, 0, none⟩ (.string (S q))).setCell ⟨w.heap.size + 1, 1, none⟩ (.slice da nd dc)) := ⟨_, rfl⟩
    rw [← hZ] at HRS HRB
    have y0 := HRB.out.cell 0
    have y1 := HRB.out.cell 1
    simp at y0 y1
    try rw [← hZ]
    clear hZ
    refine bodyPost_ret (v := .agg #[.string (S q), (.slice da nd dc)]) (by simp [results, Tryz.results50, go_sem, y0, y1]) rfl HRS.out
end Go.Proofs.YtnackmnoldkihaaGreatDoor
namespace Go.Proofs.YtnackmnoldkihaaGreatDoor
open Go.RowKit

set_option maxHeartbeats 2000000 in
set_option maxRecDepth 100000 in
theorem rline_any {w : World} {B : Nat} {dv : Value} {out : List UInt8} {ds : List DocV} (h : RW w B dv out ds) (hlen : (lineS (stOf out ds)).1.length ≤ lim) :
 Calls Tryz.prog 64 #[.agg #[.string (S out), dv]] w (RS w B (lineS (stOf out ds))) := by
 have HLS := Lib.hid (stOf_line out ds)
 have HLEN : Hid (∀ k, (out ++ 10 :: (ds.take k).flatMap (fun r => docW r.1)).length ≤ lim) := Lib.hid fun k => by
  have := flat_take_le (fun r : DocV => docW r.1) ds k
  rw [HLS.out] at hlen
  simp only [List.length_append, List.length_cons] at hlen ⊢
  omega
 obtain ⟨a, c, rfl⟩ := h.shape
 obtain ⟨n, hn⟩ : ∃ n, ds.length = n := ⟨_, rfl⟩
 have hnm : n ≤ 9223372036854775807 := by have := (Sl.of_own h.1).len; unfold maxLen at this; omega
 have HN := Lib.hid hn
 have HB0 := Lib.hid (BW.start1 h)
 have HRW := Lib.hid h
 have hBw := h.2.2.2
 have C1 := cat_S out ⟨#[10]⟩ (by have := HLEN.out 0; simp [lim] at this ⊢; omega)
 rw [show L ⟨#[10]⟩ = [10] from rfl] at C1
 have HO := Lib.hid (h.more (out' := out ++ [10]) (by simp))
 rw [hn] at HB0 HRW ⊢
 clear h hn hlen
 go_enter Tryz.func64, Tryz.ntmps64
 go_upto_region 1 with fail
 obtain ⟨V, hV⟩ : ∃ V, V = (w.alloc (.cells #[.string (S out), .slice a n c] 87)).alloc (.cells #[.string ⟨#[]⟩, .slice none 0 0] 87) := ⟨_, rfl⟩
 rw [HN.out] at HO
 have HOV : Hid (RW V B (.slice a n c) (out ++ [10]) ds) := Lib.hid (by rw [hV]; exact HO.out.below bg)
 rw [← hV] at HB0 ⊢
 clear hV HO
 obtain ⟨p0, p1, pf, pg, pl, pr0, pr1, prf, prg, prl⟩ := HB0.out.boxw
 go_upto_region 2 with fail
 clear p0 p1 pf pg pl pr0 pr1 prf prg prl
 have HB1 := Lib.hid (HB0.out.put0 (Below.refl _ _) HOV.out)
 obtain ⟨V1, hV1⟩ : ∃ V1, V1 = V.setCell ⟨w.heap.size, 0, none⟩ (.string (S (out ++ [10]))) := ⟨_, rfl⟩
 rw [← hV1] at HB1 ⊢
 clear hV1
 go_wp2_with fail
 go_loopw [3] (fun i V => ∃ k : Nat, k ≤ n ∧ i = .int .i64 k ∧ BW w V B 1 (.slice a n c) (out ++ 10 :: (ds.take k).flatMap (fun r => docW r.1)) ds) (fun i _ => n - (intOf i).toNat)
 case atStart => exact ⟨0, Nat.zero_le _, rfl, by simpa using HB1.out⟩
 case round =>
  obtain ⟨k, hk, rfl, hb⟩ := hrel
  have HB := Lib.hid hb
  clear hb
  obtain ⟨p0, p1, pf, pg, pl, pr0, pr1, prf, prg, prl⟩ := HB.out.boxw
  by_cases hlt : k < n
  · obtain ⟨r, hr⟩ : ∃ r, ds[k]? = .some r := ⟨_, List.getElem?_eq_getElem (by rw [HN.out]; exact hlt)⟩
    obtain ⟨g, o, a1, c1, d, hi, hgW, e2, e3, hrd⟩ := HRW.out.doc_at hr
    have HLW := Lib.hid HB.out.low
    have c2 := (HLW.out.cell hgW).trans e2
    have c3 := (HLW.out.cell hgW).trans e3
    have hgr : g < wr.heap.size := Nat.lt_of_lt_of_le hgW HLW.out.size
    have hgb : g ≠ w.heap.size := by omega
    have HTK := Lib.hid (docs_take hr)
    obtain ⟨q, hq⟩ : ∃ q, out ++ 10 :: (ds.take k).flatMap (fun r => docW r.1) = q := ⟨_, rfl⟩
    have HQ1 : Hid (out ++ 10 :: (ds.take (k + 1)).flatMap (fun r => docW r.1) = ((q ++ docL r.1.word) ++ L r.1.tag) ++ [10]) := Lib.hid (by rw [HTK.out, ← hq, docW]; simp)
    have hqz : q.length + (docL r.1.word).length + r.1.tag.size + 1 ≤ lim := by
     have := HLEN.out (k + 1)
     rw [HQ1.out] at this
     simp only [List.length_append, List.length_cons, List.length_nil, L_size] at this; omega
    obtain ⟨_, h2, h3, yv, hcs, hp⟩ := hrd
    simp only [List.cons.injEq, and_true, true_and] at hcs
    rw [← hcs] at hp
    have CD : Hid (∀ V, Below wr.heap.size wr V → Calls Tryz.prog 13 #[.slice a1 r.1.word.length c1] V fun e w' => e = .returned (.string (S (docL r.1.word))) ∧ V = w') := Lib.hid fun V hV => rdoc_any r.1.word _ V d ((hp.mono hBw).later (HLW.out.trans (hV.mono HLW.out.size))) h3
    unfold lim at hqz
    have k1 := cat_S q (S (docL r.1.word)) (by rw [S_size]; omega)
    have k2 := cat_S (q ++ docL r.1.word) r.1.tag (by simp; omega)
    have k3 := cat_S (q ++ (docL r.1.word ++ L r.1.tag)) ⟨#[10]⟩ (by simp [L_size]; omega)
    rw [L_S] at k1
    rw [show L ⟨#[10]⟩ = [10] from rfl] at k3
    simp only [List.append_assoc] at k2 k3 HQ1
    rw [hq] at p0 HB
    clear hr hp hcs h2 h3 hq hqz e2 e3
    go_wp2_with fail
    obtain ⟨dl, hdl⟩ : ∃ t, docL r.1.word = t := ⟨_, rfl⟩
    rw [hdl] at CD k1 k2 k3 HQ1
    clear hdl
    refine wp_region_held_drew (S := fun w' => w'.cell? ⟨w.heap.size, 1, none⟩ = some (.slice a n c) ∧ w'.cell? ⟨g, o + 2, none⟩ = some (.string r.1.tag) ∧ w'.cell? ⟨g, o + 3, none⟩ = some (.slice a1 r.1.word.length c1)) (by kernel_rfl) ?_ (fun hHeld => ?_)
    · exact ⟨p1, c2, c3⟩
    refine tk 0 ?_
    refine tk 2 ?_
    refine tk 3 ?_
    refine tk 4 ?_
    refine tk 5 ?_
    refine tk 6 ?_
    refine tk 7 ?_
    refine tk 10 ?_
    try simp only [Act.put, List.getElem_toArray, List.getElem_cons_zero, List.getElem_cons_succ, List.setIfInBounds_toArray, List.set_cons_zero, List.set_cons_succ]
    refine tk 11 ?_
    refine tk 12 ?_
    refine tk 13 ?_
    refine tk 14 ?_
    refine tk 15 ?_
    try simp only [Act.put, List.getElem_toArray, List.getElem_cons_zero, List.getElem_cons_succ, List.setIfInBounds_toArray, List.set_cons_zero, List.set_cons_succ]
    refine wpAnyH_ready (rs := [1, 8]) (by kernel_rfl) (by simp) ?_
    refine AllReadyH.cons rfl (fun K hK => ?_) (AllReadyH.cons rfl (fun K hK => ?_) AllReadyH.nil)
    rotate_left
    · go_simp
      go_at_call 13
      refine (CD.out _ (Below.drew (Below.refl _ _))).mono ?_
      rintro e w1 ⟨rfl, rfl⟩
      go_wp2_with fail
      refine hK.out _ _ ?_ (fun hHeld => ?_)
      · exact ⟨p1, c2, c3⟩
      clear hK K
      try simp only [Act.put, List.getElem_toArray, List.getElem_cons_zero, List.getElem_cons_succ, List.setIfInBounds_toArray, List.set_cons_zero, List.set_cons_succ]
      refine wpAnyH_ready (rs := [1]) (by kernel_rfl) (by simp) ?_
      refine AllReadyH.cons rfl (fun K hK => ?_) AllReadyH.nil
      go_simp
      refine hK.out _ _ ?_ (fun hHeld => ?_)
      · exact ⟨p1, c2, c3⟩
      clear hK K
      try simp only [Act.put, List.getElem_toArray, List.getElem_cons_zero, List.getElem_cons_succ, List.setIfInBounds_toArray, List.set_cons_zero, List.set_cons_succ]
      refine tk 9 ?_
      refine tk 16 ?_
      refine tk 17 ?_
      refine tk 18 ?_
      try simp only [Act.put, List.getElem_toArray, List.getElem_cons_zero, List.getElem_cons_succ, List.setIfInBounds_toArray, List.set_cons_zero, List.set_cons_succ]
      refine wpAnyH_ready (rs := [19]) (by kernel_rfl) (by simp) ?_
      refine AllReadyH.cons rfl (fun K hK => ?_) AllReadyH.nil
      go_simp
      refine hK.out _ _ ?_ (fun hHeld => ?_)
      · exact ⟨(World.cell?_setCell_other wr ⟨w.heap.size, 0, none⟩ ⟨w.heap.size, 1, none⟩ _ (by simp)).trans p1, (World.cell?_setCell_other wr ⟨w.heap.size, 0, none⟩ ⟨g, o + 2, none⟩ _ (fun e => by injection e with e1 _; exact hgb e1.symm)).trans c2, (World.cell?_setCell_other wr ⟨w.heap.size, 0, none⟩ ⟨g, o + 3, none⟩ _ (fun e => by injection e with e1 _; exact hgb e1.symm)).trans c3⟩
      clear hK K
      try simp only [Act.put, List.getElem_toArray, List.getElem_cons_zero, List.getElem_cons_succ, List.setIfInBounds_toArray, List.set_cons_zero, List.set_cons_succ]
      refine wpAnyH_done (by kernel_rfl) ?_ _
      have HBE := Lib.hid ((HB.out.put0 (U := wr) (Below.refl _ _) (out' := q ++ (dl ++ (L r.1.tag ++ [10]))) (HB.out.rw.more (by simp))).later (Below.drew (Below.refl _ _)))
      obtain ⟨V2, hV2⟩ : ∃ V2, V2 = (wr.setCell ⟨w.heap.size, 0, none⟩ (.string (S (q ++ (dl ++ (L r.1.tag ++ [10])))))).drew := ⟨_, rfl⟩
      rw [← hV2] at HBE ⊢
      rw [← HQ1.out] at HBE
      clear hHeld hV2 k1 k2 k3 c2 c3
      clear p0 p1 pf pg pl pr0 pr1 prf prg prl
      go_wp2_with fail
      go_roundw
      case rel => exact ⟨k + 1, by omega, by go_num, HBE.out⟩
      case measure => simp [intOf]; omega
    · go_simp
      refine hK.out _ _ ?_ (fun hHeld => ?_)
      · exact ⟨p1, c2, c3⟩
      clear hK K
      try simp only [Act.put, List.getElem_toArray, List.getElem_cons_zero, List.getElem_cons_succ, List.setIfInBounds_toArray, List.set_cons_zero, List.set_cons_succ]
      refine wpAnyH_ready (rs := [8]) (by kernel_rfl) (by simp) ?_
      refine AllReadyH.cons rfl (fun K hK => ?_) AllReadyH.nil
      go_simp
      go_at_call 13
      refine (CD.out _ (Below.drew (Below.refl _ _))).mono ?_
      rintro e w1 ⟨rfl, rfl⟩
      go_wp2_with fail
      refine hK.out _ _ ?_ (fun hHeld => ?_)
      · exact ⟨p1, c2, c3⟩
      clear hK K
      try simp only [Act.put, List.getElem_toArray, List.getElem_cons_zero, List.getElem_cons_succ, List.setIfInBounds_toArray, List.set_cons_zero, List.set_cons_succ]
      refine tk 9 ?_
      refine tk 16 ?_
      refine tk 17 ?_
      refine tk 18 ?_
      try simp only [Act.put, List.getElem_toArray, List.getElem_cons_zero, List.getElem_cons_succ, List.setIfInBounds_toArray, List.set_cons_zero, List.set_cons_succ]
      refine wpAnyH_ready (rs := [19]) (by kernel_rfl) (by simp) ?_
      refine AllReadyH.cons rfl (fun K hK => ?_) AllReadyH.nil
      go_simp
      refine hK.out _ _ ?_ (fun hHeld => ?_)
      · exact ⟨(World.cell?_setCell_other wr ⟨w.heap.size, 0, none⟩ ⟨w.heap.size, 1, none⟩ _ (by simp)).trans p1, (World.cell?_setCell_other wr ⟨w.heap.size, 0, none⟩ ⟨g, o + 2, none⟩ _ (fun e => by injection e with e1 _; exact hgb e1.symm)).trans c2, (World.cell?_setCell_other wr ⟨w.heap.size, 0, none⟩ ⟨g, o + 3, none⟩ _ (fun e => by injection e with e1 _; exact hgb e1.symm)).trans c3⟩
      clear hK K
      try simp only [Act.put, List.getElem_toArray, List.getElem_cons_zero, List.getElem_cons_succ, List.setIfInBounds_toArray, List.set_cons_zero, List.set_cons_succ]
      refine wpAnyH_done (by kernel_rfl) ?_ _
      have HBE := Lib.hid ((HB.out.put0 (U := wr) (Below.refl _ _) (out' := q ++ (dl ++ (L r.1.tag ++ [10]))) (HB.out.rw.more (by simp))).later (Below.drew (Below.refl _ _)))
      obtain ⟨V2, hV2⟩ : ∃ V2, V2 = (wr.setCell ⟨w.heap.size, 0, none⟩ (.string (S (q ++ (dl ++ (L r.1.tag ++ [10])))))).drew := ⟨_, rfl⟩
      rw [← hV2] at HBE ⊢
      rw [← HQ1.out] at HBE
      clear hHeld hV2 k1 k2 k3 c2 c3
      clear p0 p1 pf pg pl pr0 pr1 prf prg prl
      go_wp2_with fail
      go_roundw
      case rel => exact ⟨k + 1, by omega, by go_num, HBE.out⟩
      case measure => simp [intOf]; omega
  · have HE : Hid (lineS (stOf out ds) = (out ++ 10 :: (ds.take k).flatMap (fun r => docW r.1), [])) := Lib.hid (by rw [HLS.out, List.take_of_length_le (by rw [HN.out]; omega)])
    obtain ⟨q, hq⟩ : ∃ q, out ++ 10 :: (ds.take k).flatMap (fun r => docW r.1) = q := ⟨_, rfl⟩
    rw [hq] at HB HE p0
    clear hq
    go_upto_region 7 with fail
    clear p0 p1 pf pg pl pr0 pr1 prf prg prl
    have HBE := Lib.hid (HB.out.put1 (dv' := .slice none 0 0) (ds' := []) (Below.refl _ _) (RW.nil HB.out.rw.2.2.2 q))
    obtain ⟨V2, hV2⟩ : ∃ V2, V2 = wr.setCell ⟨w.heap.size, 1, none⟩ (.slice none 0 0) := ⟨_, rfl⟩
    rw [← hV2] at HBE ⊢
    clear hV2 HB
    obtain ⟨z0, z1, zf, zg, zl, zr0, zr1, zrf, zrg, zrl⟩ := HBE.out.boxw
    go_wp2_with fail
    have HRS := Lib.hid (HBE.out.back HE.out)
    have HRB := Lib.hid HBE.out.back_res
    clear z0 z1 zf zg zl zr0 zr1 zrf zrg zrl
    obtain ⟨Z, hZ⟩ : ∃ Z, Z = ((V2.setCell ⟨w.heap.size + 1, 0, none⟩ (.string (S q))).setCell ⟨w.heap.size + 1, 1, none⟩ (.slice none 0 0)) := ⟨_, rfl⟩
    rw [← hZ] at HRS HRB
    have y0 := HRB.out.cell 0
    have y1 := HRB.out.cell 1
    simp at y0 y1
    try rw [← hZ]
    clear hZ
    refine bodyPost_ret (v := .agg #[.string (S q), (.slice none 0 0)]) (by simp [results, Tryz.results64, go_sem, y0, y1]) rfl HRS.out
end Go.Proofs.YtnackmnoldkihaaGreatDoor
