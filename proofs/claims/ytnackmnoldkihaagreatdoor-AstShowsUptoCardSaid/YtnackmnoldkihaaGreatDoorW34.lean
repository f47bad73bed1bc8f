/-
  The document's writer: redirs.
-/
import Derived.Test.YtnackmnoldkihaaGreatDoorW33
import Derived.Test.YtnackmnoldkihaaGreatDoorW17
import Derived.Test.YtnackmnoldkihaaGreatDoorW24
import Derived.Deep.DeepCutAuto
import Derived.Laws.AppendOwnNone
set_option linter.unusedVariables false
set_option linter.unusedSimpArgs false
namespace Go.Proofs.YtnackmnoldkihaaGreatDoor
open Go.RowKit

/-- The state in the box. -/
def InW (w W : World) (B k : Nat) (s : St) : Prop := ∃ dv q ds, BW w W B k dv q ds ∧ stOf q ds = s
theorem InW.open {w W : World} {B k : Nat} {s : St} (h : InW w W B k s) : ∃ a n c q ds, BW w W B k (.slice a n c) q ds ∧ stOf q ds = s ∧ ds.length = n := by
 obtain ⟨dv, q, ds, h1, h2⟩ := h
 obtain ⟨a, c, rfl⟩ := h1.rw.shape
 exact ⟨a, _, c, q, ds, h1, h2, rfl⟩
def PutAt (B : Nat) : Prop := ∀ (W : World) (dv : Value) (out : List UInt8) (ds : List DocV) (t : ByteArray), RW W B dv out ds → out.length + t.size ≤ lim →
 Calls Tryz.prog 83 #[.agg #[.string (S out), dv], .string t] W (RS W B (putS (stOf out ds) (L t)))
theorem put_at (B : Nat) : PutAt B := fun _ _ _ _ t h hl => rput_any h t hl
theorem put_len {s : St} {q : List UInt8} {ds : List DocV} {t : ByteArray} (hs : stOf q ds = s) (h : (putS s (L t)).1.length ≤ lim) : q.length + t.size ≤ lim := by
 subst hs
 simpa [putS, stOf, L_size] using h

set_option maxHeartbeats 8000000 in
set_option maxRecDepth 100000 in
theorem rredirs_any {B d : Nat} (hT : RTextAt B d) {w : World} {dv0 : Value} {out0 : List UInt8} {ds0 : List DocV} (h : RW w B dv0 out0 ds0) {l : List Rd} {v : Value} (hl : RdsIn w B d l v) (hg : l.all (redirF (levG d).1) = true) (bl : Bool) (hlen : (redirsS (levS d).1 (stOf out0 ds0) l bl).1.length ≤ lim) :
 Calls Tryz.prog 85 #[.agg #[.string (S out0), dv0], v, .bool bl] w (RS w B (redirsS (levS d).1 (stOf out0 ds0) l bl)) := by
 obtain ⟨a, cap, rfl, hz⟩ := hl.len
 obtain ⟨n, hn⟩ : ∃ n, l.length = n := ⟨_, rfl⟩
 have hBw := h.2.2.2
 have HFA := Lib.hid (List.all_eq_true.1 hg)
 have HLEN : Hid (∀ k, (redirsS (levS d).1 (stOf out0 ds0) (l.take k) bl).1.length ≤ lim) := Lib.hid fun k => Nat.le_trans (redirs_take_le (levS_grow d).1 l _ bl k) hlen
 obtain ⟨a9, c9, rfl⟩ := h.shape
 have HB0 := Lib.hid (BW.start1 h)
 obtain ⟨s0, hs0⟩ : ∃ s, stOf out0 ds0 = s := ⟨_, rfl⟩
 obtain ⟨n0, hn0⟩ : ∃ n, ds0.length = n := ⟨_, rfl⟩
 have HS0 := Lib.hid hs0
 rw [hn0] at HB0 ⊢
 rw [hn] at hl hz ⊢
 rw [hs0] at HLEN ⊢
 have HL := Lib.hid hl
 have HN := Lib.hid hn
 have HT := Lib.hid hT
 clear hl hn hg hlen h hT hn0 hs0
 go_enter Tryz.func85, Tryz.ntmps85
 go_upto_region 1 with fail
 obtain ⟨V, hV⟩ : ∃ V, V = (w.alloc (.cells #[.string (S out0), .slice a9 n0 c9] 87)).alloc (.cells #[.string ⟨#[]⟩, .slice none 0 0] 87) := ⟨_, rfl⟩
 rw [← hV] at HB0 ⊢
 clear hV
 go_wp2_with fail
 go_loopw [7] (fun i V => ∃ (k : Nat), k ≤ n ∧ i = .int .i64 k ∧ InW w V B 1 (redirsS (levS d).1 s0 (l.take k) bl)) (fun i _ => n - (intOf i).toNat)
 case atStart => exact ⟨0, Nat.zero_le _, rfl, _, _, _, HB0.out, HS0.out⟩
 case round =>
  obtain ⟨k, hk, rfl, hb⟩ := hrel
  obtain ⟨da, nd, dc, q, ds, hb, hst, hnd⟩ := hb.open
  have HB := Lib.hid hb
  have HST := Lib.hid hst
  clear hb hst hnd
  by_cases hlt : k < n
  · obtain ⟨x, hx⟩ : ∃ x, l[k]? = .some x := ⟨_, List.getElem?_eq_getElem (by rw [HN.out]; exact hlt)⟩
    obtain ⟨b, o, c, hi, hbB, hce, hC, _⟩ := HL.out.at 60 100 Tryz.underlying60 (by kernel_rfl) hx
    have hfx := HFA.out x (List.mem_of_getElem? hx)
    rw [redirF, Bool.and_eq_true, Bool.and_eq_true, decide_eq_true_eq, decide_eq_true_eq] at hfx
    obtain ⟨⟨hfd0, hfd9⟩, hfw⟩ := hfx
    obtain ⟨qq, hqq⟩ : ∃ b, (bl || decide ((0 : Int) < k)) = b := ⟨_, rfl⟩
    have HX : Hid (redirsS (levS d).1 s0 (l.take (k + 1)) bl = redirS (levS d).1 (nextS (stOf q ds) qq) x) := Lib.hid (by
     rw [take_snoc' hx, redirs_snoc, ← HST.out, take_empty (by rw [HN.out]; exact hlt), ← hqq]
     congr 3
     simp)
    have HLX : Hid ((redirS (levS d).1 (nextS (stOf q ds) qq) x).1.length ≤ lim) := Lib.hid (by rw [← HX.out]; exact HLEN.out (k + 1))
    have HRX : Hid (redirS (levS d).1 (nextS (stOf q ds) qq) x = bif L x.op == [60, 60] then ((putS (putS (nextS (stOf q ds) qq) (fdL x.fd ++ L x.op)) (bif litrB x.word then 39 :: (L x.tag ++ [39]) else L x.tag)).1, (nextS (stOf q ds) qq).2 ++ [x]) else putS (putS (nextS (stOf q ds) qq) (fdL x.fd ++ L x.op)) (txtS d x.word)) := Lib.hid (by rw [redirS, levS_word])
    have HZ2 : Hid ((putS (nextS (stOf q ds) qq) (fdL x.fd ++ L x.op)).1.length ≤ lim) := Lib.hid (by
     have h1 := HLX.out
     rw [HRX.out] at h1
     cases hc : L x.op == [60, 60] with
     | true => rw [hc] at h1; exact Nat.le_trans (putS_grow _ _) h1
     | false => rw [hc] at h1; exact Nat.le_trans (putS_grow _ _) h1)
    have HZ1 : Hid ((nextS (stOf q ds) qq).1.length ≤ lim) := Lib.hid (Nat.le_trans (putS_grow _ _) HZ2.out)
    have HC := Lib.hid hC
    obtain ⟨a1, c1, rfl, ⟨hz1, hz2⟩, _, hzw, hxw⟩ := hC.open
    have hbw := Nat.lt_of_lt_of_le hbB hBw
    have E0 := Lib.hid (hce 0 _ rfl)
    have E1 := Lib.hid (hce 1 _ rfl)
    have E2 := Lib.hid (hce 2 _ rfl)
    have E3 := Lib.hid (hce 3 _ rfl)
    rw [Nat.add_zero] at E0
    have hbg : b ≠ w.heap.size := by omega
    have HXW := Lib.hid hxw
    have HFW := Lib.hid hfw
    have HQQ := Lib.hid hqq
    clear hx hce hC hxw hfw hqq
    go_upto_region 4 with fail
    go_cut [19] (fun s W => s = .bool qq ∧ wr = W)
    case first =>
     cases bl with
     | true =>
       go_wp2_with fail
       go_meet
       exact ⟨by rw [← HQQ.out]; rfl, rfl⟩
     | false =>
       have hg := HQQ.out
       rw [Bool.false_or] at hg
       have HG := Lib.hid hg
       clear hg
       go_wp2_with fail
       go_meet
       exact ⟨by rw [← HG.out]; simp, rfl⟩
    case rest =>
    obtain ⟨rfl, rfl⟩ := hcut
    go_upto_if 19 with fail
    go_cut [] (fun W => InW w W B 1 (nextS (stOf q ds) qq))
    case first =>
     obtain ⟨p0, p1, pf, pg, pl, pr0, pr1, prf, prg, prl⟩ := HB.out.boxw
     cases qq with
     | false =>
       go_wp2_with fail
       go_meet
       exact ⟨_, q, ds, HB.out, rfl⟩
     | true =>
       have CP := Lib.hid (put_at B wr _ q ds ⟨#[32]⟩ HB.out.rw (by have := HZ1.out; simp [nextS, putS, stOf] at this ⊢; exact this))
       go_wp2_with fail
       refine CP.out.mono ?_
       rintro e w2 hrs
       obtain ⟨dv2, q2, ds2, rfl, hs2, hr2, hb2⟩ := hrs.st
       obtain ⟨a2, c2, rfl⟩ := hr2.shape
       have HB2 := Lib.hid (hb2)
       have HR2 := Lib.hid hr2
       have HS2 := Lib.hid hs2
       obtain ⟨n2, hn2⟩ : ∃ n, ds2.length = n := ⟨_, rfl⟩
       rw [hn2] at HR2 ⊢
       have HN2 := Lib.hid hn2
       clear hrs hr2 hs2 hb2 hn2
       have HK2 := Lib.hid (HB.out.later HB2.out)
       clear p0 p1 pf pg pl pr0 pr1 prf prg prl
       obtain ⟨p0, p1, pf, pg, pl, pr0, pr1, prf, prg, prl⟩ := HK2.out.boxw
       go_wp2_with fail
       go_meet
       exact ⟨_, q2, ds2, HB.out.put HB2.out HR2.out, HS2.out.symm⟩
    case rest =>
    obtain ⟨da1, nd1, dc1, q1, ds1, hb1, hst1, hnd1⟩ := hcut.open
    have HB1 := Lib.hid hb1
    have HST1 := Lib.hid hst1
    clear hcut hb1 hst1 hnd1
    go_upto_region 6 with fail
    go_cut [] (fun W => InW w W B 1 (putS (nextS (stOf q ds) qq) (fdL x.fd ++ L x.op)))
    case first =>
     have HLO := Lib.hid HB1.out.low
     have e0 := (HLO.out.cell hbw).trans E0.out
     have e1 := (HLO.out.cell hbw).trans E1.out
     have hbr : b < wc.heap.size := Nat.lt_of_lt_of_le hbw HLO.out.size
     have CDg : Hid (∀ V, Calls Tryz.prog 107 #[.int .i64 x.fd] V fun e w' => e = .returned (.string (S (fdL x.fd))) ∧ Below V.heap.size V w') := Lib.hid fun V => by
      have := rdigits_any x.fd.toNat V (by omega)
      rwa [Int.toNat_of_nonneg hfd0] at this
     have k1 := cat_S (fdL x.fd) x.op (by rw [fdL]; simp; omega)
     have CP : Hid (∀ V, Below wc.heap.size wc V → Calls Tryz.prog 83 #[.agg #[.string (S q1), .slice da1 nd1 dc1], .string (S (fdL x.fd ++ L x.op))] V (RS V B (putS (nextS (stOf q ds) qq) (fdL x.fd ++ L x.op)))) := Lib.hid fun V hV => by
      have := put_at B V _ q1 ds1 (S (fdL x.fd ++ L x.op)) (HB1.out.rw.below hV) (put_len HST1.out HZ2.out)
      rwa [HST1.out] at this
     obtain ⟨fo, hfo⟩ : ∃ t, fdL x.fd ++ L x.op = t := ⟨_, rfl⟩
     obtain ⟨sf, hsf⟩ : ∃ t, S (fdL x.fd) = t := ⟨_, rfl⟩
     rw [hfo] at CP k1
     have HFO := Lib.hid hfo
     rw [hsf] at CDg k1
     obtain ⟨so, hso⟩ : ∃ t, S fo = t := ⟨_, rfl⟩
     rw [hso] at CP k1
     clear hfo hsf hso
     obtain ⟨p0, p1, pf, pg, pl, pr0, pr1, prf, prg, prl⟩ := HB1.out.boxw
     refine wp_region_held_drew (S := fun w' => w'.cell? ⟨b, o, none⟩ = some (.int .i64 x.fd) ∧ w'.cell? ⟨b, o + 1, none⟩ = some (.string x.op)) (by kernel_rfl) ?_ (fun hHeld => ?_)
     · exact ⟨e0, e1⟩
     refine tk 1 ?_
     refine tk 2 ?_
     refine tk 3 ?_
     refine tk 4 ?_
     refine tk 5 ?_
     refine tk 7 ?_
     refine tk 8 ?_
     refine tk 9 ?_
     try simp only [Act.put, List.getElem_toArray, List.getElem_cons_zero, List.getElem_cons_succ, List.setIfInBounds_toArray, List.set_cons_zero, List.set_cons_succ]
     refine tk 10 ?_
     refine tk 11 ?_
     try simp only [Act.put, List.getElem_toArray, List.getElem_cons_zero, List.getElem_cons_succ, List.setIfInBounds_toArray, List.set_cons_zero, List.set_cons_succ]
     refine wpAnyH_ready (rs := [0, 6]) (by kernel_rfl) (by simp) ?_
     refine AllReadyH.cons rfl (fun K hK => ?_) (AllReadyH.cons rfl (fun K hK => ?_) AllReadyH.nil)
     · go_simp
       refine hK.out _ _ ?_ (fun hHeld => ?_)
       · exact ⟨e0, e1⟩
       clear hK K
       try simp only [Act.put, List.getElem_toArray, List.getElem_cons_zero, List.getElem_cons_succ, List.setIfInBounds_toArray, List.set_cons_zero, List.set_cons_succ]
       refine wpAnyH_ready (rs := [6]) (by kernel_rfl) (by simp) ?_
       refine AllReadyH.cons rfl (fun K hK => ?_) AllReadyH.nil
       go_simp
       go_at_call 107
       refine (CDg.out _).mono ?_
       rintro e v1 ⟨rfl, hv1⟩
       have HBV : Hid (Below wc.heap.size wc v1) := Lib.hid (((Below.refl _ _).drew).trans (show Below wc.heap.size wc.drew v1 from hv1))
       clear hv1
       go_wp2_with fail
       refine hK.out _ _ ?_ (fun hHeld => ?_)
       · exact ⟨(HBV.out.cell hbr).trans e0, (HBV.out.cell hbr).trans e1⟩
       clear hK K
       try simp only [Act.put, List.getElem_toArray, List.getElem_cons_zero, List.getElem_cons_succ, List.setIfInBounds_toArray, List.set_cons_zero, List.set_cons_succ]
       refine tk 12 ?_
       try simp only [Act.put, List.getElem_toArray, List.getElem_cons_zero, List.getElem_cons_succ, List.setIfInBounds_toArray, List.set_cons_zero, List.set_cons_succ]
       refine wpAnyH_ready (rs := [13]) (by kernel_rfl) (by simp) ?_
       refine AllReadyH.cons rfl (fun K hK => ?_) AllReadyH.nil
       go_simp
       go_at_call 83
       refine (CP.out _ HBV.out).mono ?_
       rintro e w2 hrs
       obtain ⟨dv2, q2, ds2, rfl, hs2, hr2, hb2⟩ := hrs.st
       obtain ⟨a2, c2, rfl⟩ := hr2.shape
       have HB2 := Lib.hid (HBV.out.trans (hb2.mono HBV.out.size))
       have HR2 := Lib.hid hr2
       have HS2 := Lib.hid hs2
       obtain ⟨n2, hn2⟩ : ∃ n, ds2.length = n := ⟨_, rfl⟩
       rw [hn2] at HR2 ⊢
       have HN2 := Lib.hid hn2
       clear hrs hr2 hs2 hb2 hn2
       have HK2 := Lib.hid (HB1.out.later HB2.out)
       clear p0 p1 pf pg pl pr0 pr1 prf prg prl
       obtain ⟨p0, p1, pf, pg, pl, pr0, pr1, prf, prg, prl⟩ := HK2.out.boxw
       go_wp2_with fail
       refine hK.out _ _ ?_ (fun hHeld => ?_)
       · exact ⟨(HB2.out.cell hbr).trans e0, (HB2.out.cell hbr).trans e1⟩
       clear hK K
       try simp only [Act.put, List.getElem_toArray, List.getElem_cons_zero, List.getElem_cons_succ, List.setIfInBounds_toArray, List.set_cons_zero, List.set_cons_succ]
       refine wpAnyH_ready (rs := [14]) (by kernel_rfl) (by simp) ?_
       refine AllReadyH.cons rfl (fun K hK => ?_) AllReadyH.nil
       go_simp
       refine hK.out _ _ ?_ (fun hHeld => ?_)
       · exact ⟨cell_far2 ((HB2.out.cell hbr).trans e0) hbg, cell_far2 ((HB2.out.cell hbr).trans e1) hbg⟩
       clear hK K
       try simp only [Act.put, List.getElem_toArray, List.getElem_cons_zero, List.getElem_cons_succ, List.setIfInBounds_toArray, List.set_cons_zero, List.set_cons_succ]
       refine wpAnyH_done (by kernel_rfl) ?_ _
       have HE2 := Lib.hid (HB1.out.put HB2.out HR2.out)
       clear p0 p1 pf pg pl pr0 pr1 prf prg prl
       clear hHeld
       go_wp2_with fail
       go_meet
       exact ⟨_, q2, ds2, HE2.out, by rw [← HS2.out, HFO.out]⟩
     · go_simp
       go_at_call 107
       refine (CDg.out _).mono ?_
       rintro e v1 ⟨rfl, hv1⟩
       have HBV : Hid (Below wc.heap.size wc v1) := Lib.hid (((Below.refl _ _).drew).trans (show Below wc.heap.size wc.drew v1 from hv1))
       clear hv1
       go_wp2_with fail
       refine hK.out _ _ ?_ (fun hHeld => ?_)
       · exact ⟨(HBV.out.cell hbr).trans e0, (HBV.out.cell hbr).trans e1⟩
       clear hK K
       try simp only [Act.put, List.getElem_toArray, List.getElem_cons_zero, List.getElem_cons_succ, List.setIfInBounds_toArray, List.set_cons_zero, List.set_cons_succ]
       refine tk 12 ?_
       try simp only [Act.put, List.getElem_toArray, List.getElem_cons_zero, List.getElem_cons_succ, List.setIfInBounds_toArray, List.set_cons_zero, List.set_cons_succ]
       have HKV := Lib.hid (HB1.out.later HBV.out)
       clear p0 p1 pf pg pl pr0 pr1 prf prg prl
       obtain ⟨p0, p1, pf, pg, pl, pr0, pr1, prf, prg, prl⟩ := HKV.out.boxw
       refine wpAnyH_ready (rs := [0]) (by kernel_rfl) (by simp) ?_
       refine AllReadyH.cons rfl (fun K hK => ?_) AllReadyH.nil
       go_simp
       refine hK.out _ _ ?_ (fun hHeld => ?_)
       · exact ⟨(HBV.out.cell hbr).trans e0, (HBV.out.cell hbr).trans e1⟩
       clear hK K
       try simp only [Act.put, List.getElem_toArray, List.getElem_cons_zero, List.getElem_cons_succ, List.setIfInBounds_toArray, List.set_cons_zero, List.set_cons_succ]
       refine wpAnyH_ready (rs := [13]) (by kernel_rfl) (by simp) ?_
       refine AllReadyH.cons rfl (fun K hK => ?_) AllReadyH.nil
       go_simp
       go_at_call 83
       refine (CP.out _ HBV.out).mono ?_
       rintro e w2 hrs
       obtain ⟨dv2, q2, ds2, rfl, hs2, hr2, hb2⟩ := hrs.st
       obtain ⟨a2, c2, rfl⟩ := hr2.shape
       have HB2 := Lib.hid (HBV.out.trans (hb2.mono HBV.out.size))
       have HR2 := Lib.hid hr2
       have HS2 := Lib.hid hs2
       obtain ⟨n2, hn2⟩ : ∃ n, ds2.length = n := ⟨_, rfl⟩
       rw [hn2] at HR2 ⊢
       have HN2 := Lib.hid hn2
       clear hrs hr2 hs2 hb2 hn2
       have HK2 := Lib.hid (HB1.out.later HB2.out)
       clear p0 p1 pf pg pl pr0 pr1 prf prg prl
       obtain ⟨p0, p1, pf, pg, pl, pr0, pr1, prf, prg, prl⟩ := HK2.out.boxw
       go_wp2_with fail
       refine hK.out _ _ ?_ (fun hHeld => ?_)
       · exact ⟨(HB2.out.cell hbr).trans e0, (HB2.out.cell hbr).trans e1⟩
       clear hK K
       try simp only [Act.put, List.getElem_toArray, List.getElem_cons_zero, List.getElem_cons_succ, List.setIfInBounds_toArray, List.set_cons_zero, List.set_cons_succ]
       refine wpAnyH_ready (rs := [14]) (by kernel_rfl) (by simp) ?_
       refine AllReadyH.cons rfl (fun K hK => ?_) AllReadyH.nil
       go_simp
       refine hK.out _ _ ?_ (fun hHeld => ?_)
       · exact ⟨cell_far2 ((HB2.out.cell hbr).trans e0) hbg, cell_far2 ((HB2.out.cell hbr).trans e1) hbg⟩
       clear hK K
       try simp only [Act.put, List.getElem_toArray, List.getElem_cons_zero, List.getElem_cons_succ, List.setIfInBounds_toArray, List.set_cons_zero, List.set_cons_succ]
       refine wpAnyH_done (by kernel_rfl) ?_ _
       have HE2 := Lib.hid (HB1.out.put HB2.out HR2.out)
       clear p0 p1 pf pg pl pr0 pr1 prf prg prl
       clear hHeld
       go_wp2_with fail
       go_meet
       exact ⟨_, q2, ds2, HE2.out, by rw [← HS2.out, HFO.out]⟩
    case rest =>
    clear HB1
    obtain ⟨da2, nd2, dc2, q2, ds2, hb2, hst2, hnd2⟩ := hcut.open
    have HB2 := Lib.hid hb2
    have HST2 := Lib.hid hst2
    clear hcut hb2 hst2 hnd2 HST1
    have HLO := Lib.hid HB2.out.low
    have e1 := (HLO.out.cell hbw).trans E1.out
    have e2 := (HLO.out.cell hbw).trans E2.out
    have e3 := (HLO.out.cell hbw).trans E3.out
    have hbr : b < wc.heap.size := Nat.lt_of_lt_of_le hbw HLO.out.size
    cases hop : (L x.op == [60, 60]) with
    | false =>
      have g2 : (x.op.toList == [60, 60]) = false := by rw [toList_L]; exact hop
      have HRE : Hid (redirS (levS d).1 (nextS (stOf q ds) qq) x = putS (stOf q2 ds2) (txtS d x.word)) := Lib.hid (by rw [HRX.out, hop, cond_false, HST2.out])
      have hlt2 : (txtS d x.word).length ≤ lim := by
       have := HLX.out
       rw [HRE.out, putS, List.length_append] at this
       omega
      have CT : Hid (∀ V, Below wc.heap.size wc V → Calls Tryz.prog 84 #[.slice a1 x.word.length c1] V fun e w' => e = .returned (.string (S (txtS d x.word))) ∧ Below V.heap.size V w') := Lib.hid fun V hV =>
       HT.out V _ _ (by have := hV.size; have := HLO.out.size; omega) (HXW.out.below ((HLO.out.trans (hV.mono HLO.out.size)).mono hBw)) HFW.out hlt2
      have CP : Hid (∀ V, Below wc.heap.size wc V → Calls Tryz.prog 83 #[.agg #[.string (S q2), .slice da2 nd2 dc2], .string (S (txtS d x.word))] V (RS V B (putS (stOf q2 ds2) (txtS d x.word)))) := Lib.hid fun V hV =>
       put_at B V _ q2 ds2 (S (txtS d x.word)) (HB2.out.rw.below hV) (put_len rfl (by rw [L_S, ← HRE.out]; exact HLX.out))
      obtain ⟨nw, hnw⟩ : ∃ t, x.word.length = t := ⟨_, rfl⟩
      rw [hnw] at CT e3
      obtain ⟨tw, htw⟩ : ∃ t, txtS d x.word = t := ⟨_, rfl⟩
      rw [htw] at CT CP HRE
      obtain ⟨st, hst⟩ : ∃ t, S tw = t := ⟨_, rfl⟩
      rw [hst] at CT CP
      clear hop hlt2 hnw htw hst HRX HZ1 HZ2
      go_upto_region 8 with fail
      clear e1 e2 g2
      obtain ⟨p0, p1, pf, pg, pl, pr0, pr1, prf, prg, prl⟩ := HB2.out.boxw
      refine wp_region_held_drew (S := fun w' => w'.cell? ⟨b, o + 3, none⟩ = some (.slice a1 nw c1)) (by kernel_rfl) ?_ (fun hHeld => ?_)
      · exact e3
      refine tk 1 ?_
      refine tk 2 ?_
      refine tk 3 ?_
      refine tk 4 ?_
      refine tk 5 ?_
      try simp only [Act.put, List.getElem_toArray, List.getElem_cons_zero, List.getElem_cons_succ, List.setIfInBounds_toArray, List.set_cons_zero, List.set_cons_succ]
      refine wpAnyH_ready (rs := [0, 6]) (by kernel_rfl) (by simp) ?_
      refine AllReadyH.cons rfl (fun K hK => ?_) (AllReadyH.cons rfl (fun K hK => ?_) AllReadyH.nil)
      · go_simp
        refine hK.out _ _ ?_ (fun hHeld => ?_)
        · exact e3
        clear hK K
        try simp only [Act.put, List.getElem_toArray, List.getElem_cons_zero, List.getElem_cons_succ, List.setIfInBounds_toArray, List.set_cons_zero, List.set_cons_succ]
        refine wpAnyH_ready (rs := [6]) (by kernel_rfl) (by simp) ?_
        refine AllReadyH.cons rfl (fun K hK => ?_) AllReadyH.nil
        go_simp
        go_at_call 84
        refine (CT.out _ (Below.drew (Below.refl _ _))).mono ?_
        rintro e v1 ⟨rfl, hv1⟩
        have HBV : Hid (Below wc.heap.size wc v1) := Lib.hid (((Below.refl _ _).drew).trans (show Below wc.heap.size wc.drew v1 from hv1))
        clear hv1
        go_wp2_with fail
        refine hK.out _ _ ?_ (fun hHeld => ?_)
        · exact (HBV.out.cell hbr).trans e3
        clear hK K
        try simp only [Act.put, List.getElem_toArray, List.getElem_cons_zero, List.getElem_cons_succ, List.setIfInBounds_toArray, List.set_cons_zero, List.set_cons_succ]
        refine wpAnyH_ready (rs := [7]) (by kernel_rfl) (by simp) ?_
        refine AllReadyH.cons rfl (fun K hK => ?_) AllReadyH.nil
        go_simp
        go_at_call 83
        refine (CP.out _ HBV.out).mono ?_
        rintro e w3 hrs
        obtain ⟨dv3, q3, ds3, rfl, hs3, hr3, hb3⟩ := hrs.st
        obtain ⟨a3, c3, rfl⟩ := hr3.shape
        have HB3 := Lib.hid (HBV.out.trans (hb3.mono HBV.out.size))
        have HR3 := Lib.hid hr3
        have HS3 := Lib.hid hs3
        obtain ⟨n3, hn3⟩ : ∃ n, ds3.length = n := ⟨_, rfl⟩
        rw [hn3] at HR3 ⊢
        have HN3 := Lib.hid hn3
        clear hrs hr3 hs3 hb3 hn3
        have HK3 := Lib.hid (HB2.out.later HB3.out)
        clear p0 p1 pf pg pl pr0 pr1 prf prg prl
        obtain ⟨p0, p1, pf, pg, pl, pr0, pr1, prf, prg, prl⟩ := HK3.out.boxw
        go_wp2_with fail
        refine hK.out _ _ ?_ (fun hHeld => ?_)
        · exact (HB3.out.cell hbr).trans e3
        clear hK K
        try simp only [Act.put, List.getElem_toArray, List.getElem_cons_zero, List.getElem_cons_succ, List.setIfInBounds_toArray, List.set_cons_zero, List.set_cons_succ]
        refine wpAnyH_ready (rs := [8]) (by kernel_rfl) (by simp) ?_
        refine AllReadyH.cons rfl (fun K hK => ?_) AllReadyH.nil
        go_simp
        refine hK.out _ _ ?_ (fun hHeld => ?_)
        · exact cell_far2 ((HB3.out.cell hbr).trans e3) hbg
        clear hK K
        try simp only [Act.put, List.getElem_toArray, List.getElem_cons_zero, List.getElem_cons_succ, List.setIfInBounds_toArray, List.set_cons_zero, List.set_cons_succ]
        refine wpAnyH_done (by kernel_rfl) ?_ _
        have HE3 := Lib.hid (HB2.out.put HB3.out HR3.out)
        clear p0 p1 pf pg pl pr0 pr1 prf prg prl
        clear hHeld
        go_wp2_with fail
        go_roundw
        case rel => exact ⟨k + 1, by omega, by go_num, _, q3, ds3, HE3.out, by rw [HX.out, HRE.out, HS3.out]⟩
        case measure => simp [intOf]; omega
      · go_simp
        go_at_call 84
        refine (CT.out _ (Below.drew (Below.refl _ _))).mono ?_
        rintro e v1 ⟨rfl, hv1⟩
        have HBV : Hid (Below wc.heap.size wc v1) := Lib.hid (((Below.refl _ _).drew).trans (show Below wc.heap.size wc.drew v1 from hv1))
        clear hv1
        go_wp2_with fail
        refine hK.out _ _ ?_ (fun hHeld => ?_)
        · exact (HBV.out.cell hbr).trans e3
        clear hK K
        try simp only [Act.put, List.getElem_toArray, List.getElem_cons_zero, List.getElem_cons_succ, List.setIfInBounds_toArray, List.set_cons_zero, List.set_cons_succ]
        have HKV := Lib.hid (HB2.out.later HBV.out)
        clear p0 p1 pf pg pl pr0 pr1 prf prg prl
        obtain ⟨p0, p1, pf, pg, pl, pr0, pr1, prf, prg, prl⟩ := HKV.out.boxw
        refine wpAnyH_ready (rs := [0]) (by kernel_rfl) (by simp) ?_
        refine AllReadyH.cons rfl (fun K hK => ?_) AllReadyH.nil
        go_simp
        refine hK.out _ _ ?_ (fun hHeld => ?_)
        · exact (HBV.out.cell hbr).trans e3
        clear hK K
        try simp only [Act.put, List.getElem_toArray, List.getElem_cons_zero, List.getElem_cons_succ, List.setIfInBounds_toArray, List.set_cons_zero, List.set_cons_succ]
        refine wpAnyH_ready (rs := [7]) (by kernel_rfl) (by simp) ?_
        refine AllReadyH.cons rfl (fun K hK => ?_) AllReadyH.nil
        go_simp
        go_at_call 83
        refine (CP.out _ HBV.out).mono ?_
        rintro e w3 hrs
        obtain ⟨dv3, q3, ds3, rfl, hs3, hr3, hb3⟩ := hrs.st
        obtain ⟨a3, c3, rfl⟩ := hr3.shape
        have HB3 := Lib.hid (HBV.out.trans (hb3.mono HBV.out.size))
        have HR3 := Lib.hid hr3
        have HS3 := Lib.hid hs3
        obtain ⟨n3, hn3⟩ : ∃ n, ds3.length = n := ⟨_, rfl⟩
        rw [hn3] at HR3 ⊢
        have HN3 := Lib.hid hn3
        clear hrs hr3 hs3 hb3 hn3
        have HK3 := Lib.hid (HB2.out.later HB3.out)
        clear p0 p1 pf pg pl pr0 pr1 prf prg prl
        obtain ⟨p0, p1, pf, pg, pl, pr0, pr1, prf, prg, prl⟩ := HK3.out.boxw
        go_wp2_with fail
        refine hK.out _ _ ?_ (fun hHeld => ?_)
        · exact (HB3.out.cell hbr).trans e3
        clear hK K
        try simp only [Act.put, List.getElem_toArray, List.getElem_cons_zero, List.getElem_cons_succ, List.setIfInBounds_toArray, List.set_cons_zero, List.set_cons_succ]
        refine wpAnyH_ready (rs := [8]) (by kernel_rfl) (by simp) ?_
        refine AllReadyH.cons rfl (fun K hK => ?_) AllReadyH.nil
        go_simp
        refine hK.out _ _ ?_ (fun hHeld => ?_)
        · exact cell_far2 ((HB3.out.cell hbr).trans e3) hbg
        clear hK K
        try simp only [Act.put, List.getElem_toArray, List.getElem_cons_zero, List.getElem_cons_succ, List.setIfInBounds_toArray, List.set_cons_zero, List.set_cons_succ]
        refine wpAnyH_done (by kernel_rfl) ?_ _
        have HE3 := Lib.hid (HB2.out.put HB3.out HR3.out)
        clear p0 p1 pf pg pl pr0 pr1 prf prg prl
        clear hHeld
        go_wp2_with fail
        go_roundw
        case rel => exact ⟨k + 1, by omega, by go_num, _, q3, ds3, HE3.out, by rw [HX.out, HRE.out, HS3.out]⟩
        case measure => simp [intOf]; omega
    | true =>
      have g2 : (x.op.toList == [60, 60]) = true := by rw [toList_L]; exact hop
      obtain ⟨d3, hxw3⟩ := HXW.out.up
      have CLt : Hid (Calls Tryz.prog 42 #[.slice a1 x.word.length c1] wc fun e w' => e = .returned (.bool (litrB x.word)) ∧ wc = w') := Lib.hid (rliteral_any x.word _ wc d3 (hxw3.imp (fun xs hs => (hs.below (HLO.out.mono hBw)).mono (Nat.le_trans hBw HLO.out.size)) fun p _ c h => h.keep fun _ _ _ _ hs => (hs.below (HLO.out.mono hBw)).mono (Nat.le_trans hBw HLO.out.size)))
      have HRE : Hid (redirS (levS d).1 (nextS (stOf q ds) qq) x = ((putS (stOf q2 ds2) (bif litrB x.word then 39 :: (L x.tag ++ [39]) else L x.tag)).1, ds2.map (·.1) ++ [x])) := Lib.hid (by
       rw [HRX.out, hop, cond_true, ← HST2.out]
       have : (nextS (stOf q ds) qq).2 = ds2.map (·.1) := by
        have h1 : (putS (nextS (stOf q ds) qq) (fdL x.fd ++ L x.op)).2 = (stOf q2 ds2).2 := by rw [HST2.out]
        exact h1
       rw [this])
      obtain ⟨nw, hnw⟩ : ∃ t, x.word.length = t := ⟨_, rfl⟩
      rw [hnw] at CLt e3
      have HNW := Lib.hid hnw
      obtain ⟨lt, hlt0⟩ : ∃ t, litrB x.word = t := ⟨_, rfl⟩
      rw [hlt0] at CLt HRE
      have hll : q2.length + (bif lt then 39 :: (L x.tag ++ [39]) else L x.tag).length ≤ lim := by
       have := HLX.out
       rw [HRE.out] at this
       simpa [putS, stOf] using this
      have HLL := Lib.hid hll
      have hqo : q.length + 1 ≤ q2.length := by
       have h1 : (stOf q2 ds2).1 = (putS (nextS (stOf q ds) qq) (fdL x.fd ++ L x.op)).1 := by rw [HST2.out]
       have h2 : q2 = (nextS (stOf q ds) qq).1 ++ (fdL x.fd ++ L x.op) := h1
       have h3 := nextS_grow (stOf q ds) qq
       rw [stOf_fst] at h3
       rw [h2]
       simp [fdL]
       omega
      have hdn : ds2.length = ds.length := by
       have h1 : (putS (nextS (stOf q ds) qq) (fdL x.fd ++ L x.op)).2 = (stOf q2 ds2).2 := by rw [HST2.out]
       have h2 : (nextS (stOf q ds) qq).2 = ds.map (·.1) := by cases qq <;> rfl
       have h3 : (nextS (stOf q ds) qq).2 = ds2.map (·.1) := h1
       rw [h2] at h3
       have := congrArg List.length h3
       simpa using this.symm
      have hdq : ds2.length < q2.length := by have := HB.out.rw.2.2.1.1; omega
      have hdq' := Lib.hid hdq
      clear hll hqo hdn hdq hop HRX HZ1 HZ2 HB hxw3
      obtain ⟨T, hTd⟩ : ∃ T : List UInt8, (bif lt then 39 :: (L x.tag ++ [39]) else L x.tag) = T := ⟨_, rfl⟩
      have HTD := Lib.hid hTd
      rw [hTd] at HRE HLL
      clear hTd
      go_upto_if 55 with (go_at_call 42; refine CLt.out.mono ?_; rintro e w5 ⟨rfl, rfl⟩)
      clear e1 e3 g2 CLt
      go_cut [] (fun W => InW w W B 1 (putS (stOf q2 ds2) T))
      case first =>
       obtain ⟨p0, p1, pf, pg, pl, pr0, pr1, prf, prg, prl⟩ := HB2.out.boxw
       have hHL := HLL.out
       unfold lim at hHL
       cases lt with
       | true =>
         have k1 : ∀ V : World, (Op.stringOp .add ⟨#[39]⟩ x.tag).run Tryz.prog V = .ok (.string (⟨#[39]⟩ ++ x.tag)) V := fun V => run_string_add_sum V _ _ (by simp; omega)
         have k2 : ∀ V : World, (Op.stringOp .add (⟨#[39]⟩ ++ x.tag) ⟨#[39]⟩).run Tryz.prog V = .ok (.string (⟨#[39]⟩ ++ x.tag ++ ⟨#[39]⟩)) V := fun V => run_string_add_sum V _ _ (by simp; omega)
         have hLT : L (⟨#[39]⟩ ++ x.tag ++ ⟨#[39]⟩) = T := by rw [← HTD.out]; simp [L_append, L]
         have CP : Hid (∀ V, Below wc.heap.size wc V → Calls Tryz.prog 83 #[.agg #[.string (S q2), .slice da2 nd2 dc2], .string (⟨#[39]⟩ ++ x.tag ++ ⟨#[39]⟩)] V (RS V B (putS (stOf q2 ds2) T))) := Lib.hid fun V hV => by
          have := put_at B V _ q2 ds2 (⟨#[39]⟩ ++ x.tag ++ ⟨#[39]⟩) (HB2.out.rw.below hV) (put_len (s := stOf q2 ds2) (ds := ds2) rfl (by rw [hLT]; simpa [putS, stOf] using HLL.out))
          rwa [hLT] at this
         obtain ⟨tt, htt⟩ : ∃ t, (⟨#[39]⟩ ++ x.tag ++ ⟨#[39]⟩ : ByteArray) = t := ⟨_, rfl⟩
         rw [htt] at CP
         simp only [htt] at k2
         clear htt hLT hHL
         go_upto_region 10 with fail
         refine wp_region_held_drew (S := fun w' => w'.cell? ⟨b, o + 2, none⟩ = some (.string x.tag)) (by kernel_rfl) ?_ (fun hHeld => ?_)
         · exact e2
         refine tk 1 ?_
         refine tk 2 ?_
         refine tk 3 ?_
         refine tk 4 ?_
         refine tk 5 ?_
         refine tk 6 ?_
         refine tk 7 ?_
         try simp only [Act.put, List.getElem_toArray, List.getElem_cons_zero, List.getElem_cons_succ, List.setIfInBounds_toArray, List.set_cons_zero, List.set_cons_succ]
         refine wpAnyH_ready (rs := [0]) (by kernel_rfl) (by simp) ?_
         refine AllReadyH.cons rfl (fun K hK => ?_) AllReadyH.nil
         go_simp
         refine hK.out _ _ ?_ (fun hHeld => ?_)
         · exact e2
         clear hK K
         try simp only [Act.put, List.getElem_toArray, List.getElem_cons_zero, List.getElem_cons_succ, List.setIfInBounds_toArray, List.set_cons_zero, List.set_cons_succ]
         refine wpAnyH_ready (rs := [8]) (by kernel_rfl) (by simp) ?_
         refine AllReadyH.cons rfl (fun K hK => ?_) AllReadyH.nil
         go_simp
         go_at_call 83
         refine (CP.out _ (Below.drew (Below.refl _ _))).mono ?_
         rintro e w3 hrs
         obtain ⟨dv3, q3, ds3, rfl, hs3, hr3, hb3⟩ := hrs.st
         obtain ⟨a3, c3, rfl⟩ := hr3.shape
         have HB3 := Lib.hid (((Below.refl _ _).drew).trans (show Below wc.heap.size wc.drew w3 from hb3))
         have HR3 := Lib.hid hr3
         have HS3 := Lib.hid hs3
         obtain ⟨n3, hn3⟩ : ∃ n, ds3.length = n := ⟨_, rfl⟩
         rw [hn3] at HR3 ⊢
         have HN3 := Lib.hid hn3
         clear hrs hr3 hs3 hb3 hn3
         have HK3 := Lib.hid (HB2.out.later HB3.out)
         clear p0 p1 pf pg pl pr0 pr1 prf prg prl
         obtain ⟨p0, p1, pf, pg, pl, pr0, pr1, prf, prg, prl⟩ := HK3.out.boxw
         go_wp2_with fail
         refine hK.out _ _ ?_ (fun hHeld => ?_)
         · exact (HB3.out.cell hbr).trans e2
         clear hK K
         try simp only [Act.put, List.getElem_toArray, List.getElem_cons_zero, List.getElem_cons_succ, List.setIfInBounds_toArray, List.set_cons_zero, List.set_cons_succ]
         refine wpAnyH_ready (rs := [9]) (by kernel_rfl) (by simp) ?_
         refine AllReadyH.cons rfl (fun K hK => ?_) AllReadyH.nil
         go_simp
         refine hK.out _ _ ?_ (fun hHeld => ?_)
         · exact cell_far2 ((HB3.out.cell hbr).trans e2) hbg
         clear hK K
         try simp only [Act.put, List.getElem_toArray, List.getElem_cons_zero, List.getElem_cons_succ, List.setIfInBounds_toArray, List.set_cons_zero, List.set_cons_succ]
         refine wpAnyH_done (by kernel_rfl) ?_ _
         have HE3 := Lib.hid (HB2.out.put HB3.out HR3.out)
         clear p0 p1 pf pg pl pr0 pr1 prf prg prl
         clear hHeld
         go_wp2_with fail
         go_meet
         exact ⟨_, q3, ds3, HE3.out, HS3.out.symm⟩
       | false =>
         have hLT : L x.tag = T := HTD.out
         have CP : Hid (∀ V, Below wc.heap.size wc V → Calls Tryz.prog 83 #[.agg #[.string (S q2), .slice da2 nd2 dc2], .string x.tag] V (RS V B (putS (stOf q2 ds2) T))) := Lib.hid fun V hV => by
          have := put_at B V _ q2 ds2 x.tag (HB2.out.rw.below hV) (put_len (s := stOf q2 ds2) (ds := ds2) rfl (by rw [hLT]; simpa [putS, stOf] using HLL.out))
          rwa [hLT] at this
         clear hLT hHL
         go_upto_region 11 with fail
         refine wp_region_held_drew (S := fun w' => w'.cell? ⟨b, o + 2, none⟩ = some (.string x.tag)) (by kernel_rfl) ?_ (fun hHeld => ?_)
         · exact e2
         refine tk 1 ?_
         refine tk 2 ?_
         refine tk 3 ?_
         refine tk 4 ?_
         refine tk 5 ?_
         try simp only [Act.put, List.getElem_toArray, List.getElem_cons_zero, List.getElem_cons_succ, List.setIfInBounds_toArray, List.set_cons_zero, List.set_cons_succ]
         refine wpAnyH_ready (rs := [0]) (by kernel_rfl) (by simp) ?_
         refine AllReadyH.cons rfl (fun K hK => ?_) AllReadyH.nil
         go_simp
         refine hK.out _ _ ?_ (fun hHeld => ?_)
         · exact e2
         clear hK K
         try simp only [Act.put, List.getElem_toArray, List.getElem_cons_zero, List.getElem_cons_succ, List.setIfInBounds_toArray, List.set_cons_zero, List.set_cons_succ]
         refine wpAnyH_ready (rs := [6]) (by kernel_rfl) (by simp) ?_
         refine AllReadyH.cons rfl (fun K hK => ?_) AllReadyH.nil
         go_simp
         go_at_call 83
         refine (CP.out _ (Below.drew (Below.refl _ _))).mono ?_
         rintro e w3 hrs
         obtain ⟨dv3, q3, ds3, rfl, hs3, hr3, hb3⟩ := hrs.st
         obtain ⟨a3, c3, rfl⟩ := hr3.shape
         have HB3 := Lib.hid (((Below.refl _ _).drew).trans (show Below wc.heap.size wc.drew w3 from hb3))
         have HR3 := Lib.hid hr3
         have HS3 := Lib.hid hs3
         obtain ⟨n3, hn3⟩ : ∃ n, ds3.length = n := ⟨_, rfl⟩
         rw [hn3] at HR3 ⊢
         have HN3 := Lib.hid hn3
         clear hrs hr3 hs3 hb3 hn3
         have HK3 := Lib.hid (HB2.out.later HB3.out)
         clear p0 p1 pf pg pl pr0 pr1 prf prg prl
         obtain ⟨p0, p1, pf, pg, pl, pr0, pr1, prf, prg, prl⟩ := HK3.out.boxw
         go_wp2_with fail
         refine hK.out _ _ ?_ (fun hHeld => ?_)
         · exact (HB3.out.cell hbr).trans e2
         clear hK K
         try simp only [Act.put, List.getElem_toArray, List.getElem_cons_zero, List.getElem_cons_succ, List.setIfInBounds_toArray, List.set_cons_zero, List.set_cons_succ]
         refine wpAnyH_ready (rs := [7]) (by kernel_rfl) (by simp) ?_
         refine AllReadyH.cons rfl (fun K hK => ?_) AllReadyH.nil
         go_simp
         refine hK.out _ _ ?_ (fun hHeld => ?_)
         · exact cell_far2 ((HB3.out.cell hbr).trans e2) hbg
         clear hK K
         try simp only [Act.put, List.getElem_toArray, List.getElem_cons_zero, List.getElem_cons_succ, List.setIfInBounds_toArray, List.set_cons_zero, List.set_cons_succ]
         refine wpAnyH_done (by kernel_rfl) ?_ _
         have HE3 := Lib.hid (HB2.out.put HB3.out HR3.out)
         clear p0 p1 pf pg pl pr0 pr1 prf prg prl
         clear hHeld
         go_wp2_with fail
         go_meet
         exact ⟨_, q3, ds3, HE3.out, HS3.out.symm⟩
      case rest =>
       clear HB2 HLO e2 hbr
       obtain ⟨da4, nd4, dc4, q4, ds4, hb4, hst4, hnd4⟩ := hcut.open
       have HB4 := Lib.hid hb4
       have hq4 : q4 = q2 ++ T := congrArg (·.1) hst4
       have hd4 : ds4.map (·.1) = ds2.map (·.1) := congrArg (·.2) hst4
       have HND4 := Lib.hid hnd4
       have HRE4 : Hid (redirS (levS d).1 (nextS (stOf q ds) qq) x = (q4, ds4.map (·.1) ++ [x])) := Lib.hid (by rw [HRE.out, hq4, hd4]; rfl)
       have hnq : nd4 < q4.length := by
        have h1 := congrArg List.length hd4
        simp at h1
        have := hdq'.out
        rw [hq4, List.length_append]; omega
       have hq4z : q4.length ≤ 1099511627776 := by
        have := HLX.out
        rw [HRE4.out] at this
        exact this
       have HQ4 := Lib.hid hnq
       have hn4z : nd4 ≤ 1099511627776 := by omega
       clear hcut hb4 hst4 hnd4 hq4 hd4 hnq hq4z HRE
       have HLO := Lib.hid HB4.out.low
       have hRow : Hid (wc.ownsRow B 100 4 (.slice da4 nd4 dc4) nd4 (ds4.flatMap docCells)) := Lib.hid (by have := HB4.out.rw.1; rwa [HND4.out] at this)
       have HNIL : Hid (nd4 = 0 → Value.slice da4 nd4 dc4 = .slice none 0 0) := Lib.hid fun e => HB4.out.rw.2.2.1.2 (List.length_eq_zero_iff.1 (HND4.out.trans e))
       have hBwc : B ≤ wc.heap.size := Nat.le_trans hBw HLO.out.size
       have HSL := Lib.hid (Sl.of_own hRow.out)
       have HONE := Lib.hid HB4.out.rw.one
       go_upto_region 13 with fail
       go_cut [8] (fun s8 W => ∃ a8 c8, s8 = .slice a8 nd4 c8 ∧ W.ownsRow B 100 4 s8 nd4 (ds4.flatMap docCells) ∧ (∀ g, s8.ownBlock = some g → wc.heap.size ≤ g) ∧ Below wc.heap.size wc W)
       case first =>
        obtain ⟨p0, p1, pf, pg, pl, pr0, pr1, prf, prg, prl⟩ := HB4.out.boxw
        by_cases h0 : nd4 = 0
        · have hnil := HNIL.out h0
          have HD4 : Hid (ds4 = []) := Lib.hid (List.length_eq_zero_iff.1 (HND4.out.trans h0))
          rw [hnil] at p1
          have HZ := Lib.hid h0
          clear h0 hnil hn4z
          go_wp2_with fail
          go_meet
          exact ⟨none, 0, by rw [HZ.out], by rw [HZ.out, HD4.out]; exact World.ownsRow_nil _ _ _ _, fun g e => by simp [Value.ownBlock] at e, Below.refl _ _⟩
        · go_wp2_with (at_builtin; go_must ((refine append_sl2 rfl _ _ 60 rfl B 100 Tryz.underlying60 infoR14 rfl (by decide) (v := .slice none 0 0) (n := 0) (xs := []) rfl (World.ownsRow_nil _ _ _ _) (m := nd4) (news := ds4.flatMap docCells) rfl HSL.out (by omega) HONE.out (by omega) (by unfold maxLen; omega) hBwc ?_); intro g cap1 w6 hown hgrow hlie hglt))
          go_meet
          have hg : g = wc.heap.size := by
           rcases hlie with h | h
           · simp [Value.ownBlock] at h
           · exact h
          refine ⟨some ⟨g, 0, none⟩, cap1, by simp, by simpa using hown, fun k e => ?_, Below.grown (Below.refl _ _) hgrow (Nat.le_refl _) (fun k e => by simp [Value.ownBlock] at e)⟩
          simp [Value.ownBlock] at e
          omega
       case rest =>
        obtain ⟨a8, c8, rfl, hown8, hfar8, hbel8⟩ := hcut
        have HOWN8 := Lib.hid hown8
        have HBEL := Lib.hid hbel8
        have HFAR := Lib.hid hfar8
        have HB8 := Lib.hid (HB4.out.later hbel8)
        have hz8 := hbel8.size
        clear hown8 hbel8 hfar8 HSL HONE
        have HLO8 := Lib.hid HB8.out.low
        have e0 := (HLO8.out.cell hbw).trans E0.out
        have e1 := (HLO8.out.cell hbw).trans E1.out
        have e2 := (HLO8.out.cell hbw).trans E2.out
        have e3 := (HLO8.out.cell hbw).trans E3.out
        rw [HNW.out] at e3
        obtain ⟨p0, p1, pf, pg, pl, pr0, pr1, prf, prg, prl⟩ := HB8.out.boxw
        go_wp2_with (at_builtin; go_must ((refine append_sl2 rfl _ _ 60 rfl B 100 Tryz.underlying60 infoR14 rfl (by decide) (v := .slice a8 nd4 c8) (n := nd4) (xs := ds4.flatMap docCells) rfl (HOWN8.out.alloc _) (m := 1) (news := [.int .i64 x.fd, .string x.op, .string x.tag, .slice a1 nw c1]) rfl (sl_made_at _ #[.int .i64 x.fd, .string x.op, .string x.tag, .slice a1 nw c1] _ 1 4 rfl (by unfold maxLen; omega) (by simp)) (by omega) (by intro u hu; simp at hu; rcases hu with rfl | rfl | rfl | rfl <;> rfl) (by omega) (by unfold maxLen; omega) (by simp; omega) ?_); intro g cap1 w7 hown hgrow hlie hglt; have HB7 := Lib.hid (Below.grown (HBEL.out.alloc hz8 _) hgrow (by simp; omega) (fun k e => HFAR.out k e)); have HBX7 := Lib.hid (HB4.out.later HB7.out); have HOWN7 := Lib.hid hown; clear hown hgrow hlie hglt; have z0 := HBX7.out.box.cell 0; have z1 := HBX7.out.box.cell 1; have zf := HBX7.out.box.free 0; have zg := HBX7.out.box.free 1; have zl := HBX7.out.box.lt; simp at z0 z1))
        clear z0 z1 zf zg zl
        go_roundw
        case rel =>
         refine ⟨k + 1, by omega, by go_num, _, q4, ds4 ++ [(x, .slice a1 nw c1)], HB4.out.put1 HB7.out (HB4.out.rw.push (by rw [HND4.out]; exact HQ4.out) (HB7.out.mono hBwc) HB7.out.size (d := d) (r := (x, .slice a1 nw c1)) (by have := HC.out; rw [HNW.out] at this; exact this.keep fun _ _ _ _ hs => hs.below (HLO.out.mono hBw)) ?_), ?_⟩
         · rw [HND4.out]
           exact HOWN7.out
         · rw [HX.out, HRE4.out, stOf, List.map_append]; rfl
        case measure => simp [intOf]; omega
  · have HR : Hid (redirsS (levS d).1 s0 l bl = stOf q ds) := Lib.hid (by rw [HST.out, List.take_of_length_le (by rw [HN.out]; omega)])
    obtain ⟨z0, z1, zf, zg, zl, zr0, zr1, zrf, zrg, zrl⟩ := HB.out.boxw
    go_wp2_with fail
    have HRS := Lib.hid (HB.out.back HR.out)
    have HRB := Lib.hid HB.out.back_res
    clear z0 z1 zf zg zl zr0 zr1 zrf zrg zrl
    obtain ⟨Z, hZ⟩ : ∃ Z, Z = ((wr.setCell ⟨w.heap.size + 1, 0, none⟩ (.string (S q))).setCell ⟨w.heap.size + 1, 1, none⟩ (.slice da nd dc)) := ⟨_, rfl⟩
    rw [← hZ] at HRS HRB
    have y0 := HRB.out.cell 0
    have y1 := HRB.out.cell 1
    simp at y0 y1
    try rw [← hZ]
    clear hZ
    refine bodyPost_ret (v := .agg #[.string (S q), (.slice da nd dc)]) (by simp [results, Tryz.results85, go_sem, y0, y1]) rfl HRS.out
end Go.Proofs.YtnackmnoldkihaaGreatDoor
