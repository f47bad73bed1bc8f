/-
  The document's writer: arm.
-/
import Derived.Test.YtnackmnoldkihaaGreatDoorW34
set_option linter.unusedVariables false
set_option linter.unusedSimpArgs false
/-
  The document's writer: block, arm.
-/
namespace Go.Proofs.YtnackmnoldkihaaGreatDoor
open Go.RowKit

theorem BW.out2 {w V U : World} {B k : Nat} {dv dv' : Value} {out out' : List UInt8} {ds ds' : List DocV} (h : BW w V B k dv out ds) (hb : Below V.heap.size V U) (hr : RW U B dv' out' ds') {s : St} (hs : s = stOf out' ds') : RS w B s (.returned (.agg #[.string (S out'), dv'])) ((U.setCell ⟨w.heap.size + k, 0, none⟩ (.string (S out'))).setCell ⟨w.heap.size + k, 1, none⟩ dv') := by
 subst hs
 have h1 := h.later hb
 have hp := h.pos
 exact ⟨dv', ds', rfl, rfl, (hr.put h1.res (by decide) (by omega) 0 _).put (h1.res.put 0 _) (by decide) (by omega) 1 _, (h1.low.setCell (by simp) _).setCell (by simp) _⟩
theorem BW.out2_res {w V U : World} {B k : Nat} {dv dv' : Value} {out out' : List UInt8} {ds : List DocV} (h : BW w V B k dv out ds) (hb : Below V.heap.size V U) : Blk ((U.setCell ⟨w.heap.size + k, 0, none⟩ (.string (S out'))).setCell ⟨w.heap.size + k, 1, none⟩ dv') (w.heap.size + k) 87 #[.string (S out'), dv'] := ((h.later hb).res.put 0 _).put 1 _

/-- The state in the box; another box behind it. -/
def InX (w W : World) (B : Nat) (t : TypeId) (cs : Array Value) (s : St) : Prop := InW w W B 2 s ∧ Blk W (w.heap.size + 1) t cs
theorem InX.open {w W : World} {B : Nat} {t : TypeId} {cs : Array Value} {s : St} (h : InX w W B t cs s) : ∃ a n c q ds, BW w W B 2 (.slice a n c) q ds ∧ stOf q ds = s ∧ ds.length = n ∧ Blk W (w.heap.size + 1) t cs := by
 obtain ⟨a, n, c, q, ds, h1, h2, h3⟩ := h.1.open
 exact ⟨a, n, c, q, ds, h1, h2, h3, h.2⟩
theorem Blk.far2 {U : World} {g h : Nat} {t : TypeId} {cs : Array Value} (hk : Blk U g t cs) (hg : g ≠ h) (x y : Value) : Blk ((U.setCell ⟨h, 0, none⟩ x).setCell ⟨h, 1, none⟩ y) g t cs := (hk.far (by simpa using hg) _).far (by simpa using hg) _
theorem BW.putX {w V U : World} {B : Nat} {dv : Value} {out : List UInt8} {ds : List DocV} {t : TypeId} {cs : Array Value} (h : BW w V B 2 dv out ds) (hk : Blk V (w.heap.size + 1) t cs) (hb : Below V.heap.size V U) {dv' : Value} {out' : List UInt8} {ds' : List DocV} (hr : RW U B dv' out' ds') {s : St} (hs : s = stOf out' ds') : InX w ((U.setCell ⟨w.heap.size, 0, none⟩ (.string (S out'))).setCell ⟨w.heap.size, 1, none⟩ dv') B t cs s :=
 ⟨⟨dv', out', ds', h.put hb hr, hs.symm⟩, (hk.below hb hk.lt).far2 (by omega) _ _⟩

set_option maxHeartbeats 2000000 in
set_option maxRecDepth 100000 in
theorem rblock_any {B d : Nat} (hLn : RLineAt B) (hLs : RListAtS B d) (W0 : World) (dv0 : Value) (out0 : List UInt8) (ds0 : List DocV) (head : ByteArray) (l : List Nd) (v : Value) (h : RW W0 B dv0 out0 ds0) (hl : NdsIn W0 B d l v) (hg : (levG d).2.1 l = true) (hlen : (blockS (levS d).2.1 (stOf out0 ds0) (L head) l).1.length ≤ lim) :
 Calls Tryz.prog 86 #[.agg #[.string (S out0), dv0], .string head, v] W0 (RS W0 B (blockS (levS d).2.1 (stOf out0 ds0) (L head) l)) := by
 obtain ⟨w, hw⟩ : ∃ w, w = W0 := ⟨_, rfl⟩
 subst hw
 have HZ3 : Hid (((levS d).2.1 (lineS (putS (stOf out0 ds0) (L head))) l).1.length ≤ lim) := Lib.hid hlen
 have HZ2 : Hid ((lineS (putS (stOf out0 ds0) (L head))).1.length ≤ lim) := Lib.hid (Nat.le_trans ((levS_grow d).2.1 _ l) hlen)
 have HZ1 : Hid ((putS (stOf out0 ds0) (L head)).1.length ≤ lim) := Lib.hid (Nat.le_trans (lineS_grow _) HZ2.out)
 have HNL := Lib.hid hl
 have hBw := h.2.2.2
 obtain ⟨a9, c9, rfl⟩ := h.shape
 have HB0 := Lib.hid (BW.start1 h)
 obtain ⟨n0, hn0⟩ : ∃ n, ds0.length = n := ⟨_, rfl⟩
 rw [hn0] at HB0 ⊢
 have HLN := Lib.hid hLn
 have HLS := Lib.hid hLs
 have HG := Lib.hid hg
 clear hl hg hlen h hLn hLs hn0
 go_enter Tryz.func86, Tryz.ntmps86
 go_upto_region 1 with fail
 obtain ⟨V, hV⟩ : ∃ V, V = (w.alloc (.cells #[.string (S out0), .slice a9 n0 c9] 87)).alloc (.cells #[.string ⟨#[]⟩, .slice none 0 0] 87) := ⟨_, rfl⟩
 rw [← hV] at HB0 ⊢
 clear hV
 have CP := Lib.hid (put_at B V _ out0 ds0 head HB0.out.rw (put_len rfl HZ1.out))
 obtain ⟨p0, p1, pf, pg, pl, pr0, pr1, prf, prg, prl⟩ := HB0.out.boxw
 go_wp2_with fail
 refine CP.out.mono ?_
 rintro e w1 hrs
 obtain ⟨dv1, q1, ds1, rfl, hs1, hr1, hb1⟩ := hrs.st
 obtain ⟨a1, c1, rfl⟩ := hr1.shape
 have HB1 := Lib.hid (hb1)
 have HR1 := Lib.hid hr1
 have HS1 := Lib.hid hs1
 obtain ⟨n1, hn1⟩ : ∃ n, ds1.length = n := ⟨_, rfl⟩
 rw [hn1] at HR1 ⊢
 have HN1 := Lib.hid hn1
 clear hrs hr1 hs1 hb1 hn1
 rw [HS1.out] at HZ2 HZ3
 have CL := Lib.hid (HLN.out w1 _ q1 ds1 HR1.out HZ2.out)
 go_wp2_with fail
 refine CL.out.mono ?_
 rintro e w2 hrs
 obtain ⟨dv2, q2, ds2, rfl, hs2, hr2, hb2⟩ := hrs.st
 obtain ⟨a2, c2, rfl⟩ := hr2.shape
 have HB2 := Lib.hid (HB1.out.trans (hb2.mono HB1.out.size))
 have HR2 := Lib.hid hr2
 have HS2 := Lib.hid hs2
 obtain ⟨n2, hn2⟩ : ∃ n, ds2.length = n := ⟨_, rfl⟩
 rw [hn2] at HR2 ⊢
 have HN2 := Lib.hid hn2
 clear hrs hr2 hs2 hb2 hn2
 rw [HS2.out] at HZ3
 have CS := Lib.hid (HLS.out w2 _ q2 ds2 l v HR2.out (HNL.out.below (HB0.out.low.trans (HB2.out.mono HB0.out.low.size) |>.mono hBw)) HG.out HZ3.out)
 go_wp2_with fail
 refine CS.out.mono ?_
 rintro e w3 hrs
 obtain ⟨dv3, q3, ds3, rfl, hs3, hr3, hb3⟩ := hrs.st
 obtain ⟨a3, c3, rfl⟩ := hr3.shape
 have HB3 := Lib.hid (HB2.out.trans (hb3.mono HB2.out.size))
 have HR3 := Lib.hid hr3
 have HS3 := Lib.hid hs3
 obtain ⟨n3, hn3⟩ : ∃ n, ds3.length = n := ⟨_, rfl⟩
 rw [hn3] at HR3 ⊢
 have HN3 := Lib.hid hn3
 clear hrs hr3 hs3 hb3 hn3
 clear p0 p1 pf pg pl pr0 pr1 prf prg prl
 have HKR := Lib.hid (HB0.out.later HB3.out)
 obtain ⟨z0, z1, zf, zg, zl, zr0, zr1, zrf, zrg, zrl⟩ := HKR.out.boxw
 go_wp2_with fail
 have HRS := Lib.hid (HB0.out.out2 HB3.out HR3.out (by show (levS d).2.1 (lineS (putS (stOf out0 ds0) (L head))) l = _; rw [HS1.out, HS2.out, HS3.out]))
 have HRB := Lib.hid (HB0.out.out2_res (dv' := .slice a3 n3 c3) (out' := q3) HB3.out)
 clear z0 z1 zf zg zl zr0 zr1 zrf zrg zrl
 obtain ⟨Z, hZ⟩ : ∃ Z, Z = ((w3.setCell ⟨w.heap.size + 1, 0, none⟩ (.string (S q3))).setCell ⟨w.heap.size + 1, 1, none⟩ (.slice a3 n3 c3)) := ⟨_, rfl⟩
 rw [← hZ] at HRS HRB
 have y0 := HRB.out.cell 0
 have y1 := HRB.out.cell 1
 simp at y0 y1
 try rw [← hZ]
 clear hZ
 refine bodyPost_ret (v := .agg #[.string (S q3), .slice a3 n3 c3]) (by simp [results, Tryz.results86, go_sem, y0, y1]) rfl HRS.out
end Go.Proofs.YtnackmnoldkihaaGreatDoor
namespace Go.Proofs.YtnackmnoldkihaaGreatDoor
open Go.RowKit

set_option maxHeartbeats 8000000 in
set_option maxRecDepth 100000 in
theorem rarm_any {B d : Nat} (hT : RTextAt B d) (hLn : RLineAt B) (hLs : RListAtS B d) (W0 : World) (dv0 : Value) (out0 : List UInt8) (ds0 : List DocV) (am : Ar) (c : List Value) (h : RW W0 B dv0 out0 ds0) (hc : ArC W0 B d am c) (hgw : am.words.all (levG d).1 = true) (hgb : (levG d).2.1 am.body = true) (hlen : (armS (levS d).1 (levS d).2.1 (stOf out0 ds0) am).1.length ≤ lim) :
 Calls Tryz.prog 87 #[.agg #[.string (S out0), dv0], .agg c.toArray] W0 (RS W0 B (armS (levS d).1 (levS d).2.1 (stOf out0 ds0) am)) := by
 obtain ⟨w, hw⟩ : ∃ w, w = W0 := ⟨_, rfl⟩
 subst hw
 obtain ⟨wv, bv, rfl, hl, hbd⟩ := hc
 obtain ⟨aw, cw, rfl, hz⟩ := hl.len
 obtain ⟨ab, cb, rfl, _⟩ := hbd.shape
 obtain ⟨n, hn⟩ : ∃ n, am.words.length = n := ⟨_, rfl⟩
 obtain ⟨nb, hnb⟩ : ∃ n, am.body.length = n := ⟨_, rfl⟩
 have hBw := h.2.2.2
 obtain ⟨l, hl0⟩ : ∃ l, am.words = l := ⟨_, rfl⟩
 have HAR : Hid (armS (levS d).1 (levS d).2.1 (stOf out0 ds0) am = lineS (putS (blockS (levS d).2.1 (barsS (levS d).1 (putS (stOf out0 ds0) [40]) l false) [41] am.body) [59, 59])) := Lib.hid (by rw [armS, hl0])
 rw [hl0] at hn hl hgw hz ⊢
 rw [HAR.out] at hlen
 have HZ3 : Hid ((putS (blockS (levS d).2.1 (barsS (levS d).1 (putS (stOf out0 ds0) [40]) l false) [41] am.body) [59, 59]).1.length ≤ lim) := Lib.hid (Nat.le_trans (lineS_grow _) hlen)
 have HZ4 := Lib.hid hlen
 have HZ2 : Hid ((blockS (levS d).2.1 (barsS (levS d).1 (putS (stOf out0 ds0) [40]) l false) [41] am.body).1.length ≤ lim) := Lib.hid (Nat.le_trans (putS_grow _ _) HZ3.out)
 have HZB : Hid ((barsS (levS d).1 (putS (stOf out0 ds0) [40]) l false).1.length ≤ lim) := Lib.hid (Nat.le_trans (blockS_grow (levS_grow d).2.1 _ _ _) HZ2.out)
 have HLEN : Hid (∀ k, (barsS (levS d).1 (putS (stOf out0 ds0) [40]) (l.take k) false).1.length ≤ lim) := Lib.hid fun k => Nat.le_trans (bars_take_le (levS_grow d).1 l _ false k) HZB.out
 have HFA := Lib.hid (List.all_eq_true.1 hgw)
 have HBD := Lib.hid hbd
 have HGB := Lib.hid hgb
 obtain ⟨a9, c9, rfl⟩ := h.shape
 obtain ⟨n0, hn0⟩ : ∃ n, ds0.length = n := ⟨_, rfl⟩
 rw [hn] at hl hz ⊢
 rw [hnb] at HBD ⊢
 have HB0 := Lib.hid (BW.start2 h 92 #[.slice aw n cw, .slice ab nb cb])
 rw [hn0] at HB0 ⊢
 have HL := Lib.hid hl
 have HN := Lib.hid hn
 have HT := Lib.hid hT
 have HLN := Lib.hid hLn
 have HLS := Lib.hid hLs
 clear hl hn hgw hgb hlen h hT hLn hLs hn0 hbd hnb hl0
 go_enter Tryz.func87, Tryz.ntmps87
 go_upto_region 1 with fail
 obtain ⟨V, hV⟩ : ∃ V, V = ((w.alloc (.cells #[.string (S out0), .slice a9 n0 c9] 87)).alloc (.cells #[.slice aw n cw, .slice ab nb cb] 92)).alloc (.cells #[.string ⟨#[]⟩, .slice none 0 0] 87) := ⟨_, rfl⟩
 have HAK : Hid (Blk V (w.heap.size + 1) 92 #[.slice aw n cw, .slice ab nb cb]) := Lib.hid (by rw [hV]; exact (Blk.at (by simp)).alloc _)
 rw [← hV] at HB0 ⊢
 clear hV
 have CP := Lib.hid (put_at B V _ out0 ds0 ⟨#[40]⟩ HB0.out.rw (put_len rfl (by have := HLEN.out 0; simpa [barsS] using this)))
 obtain ⟨p0, p1, pf, pg, pl, pr0, pr1, prf, prg, prl⟩ := HB0.out.boxw
 go_wp2_with fail
 refine CP.out.mono ?_
 rintro e w1 hrs
 obtain ⟨dv1, q1, ds1, rfl, hs1, hr1, hb1⟩ := hrs.st
 obtain ⟨a1, c1, rfl⟩ := hr1.shape
 have HB1 := Lib.hid (hb1)
 have HR1 := Lib.hid hr1
 have HS1 := Lib.hid hs1
 obtain ⟨n1, hn1⟩ : ∃ n, ds1.length = n := ⟨_, rfl⟩
 rw [hn1] at HR1 ⊢
 have HN1 := Lib.hid hn1
 clear hrs hr1 hs1 hb1 hn1
 have HK1 := Lib.hid (HB0.out.later HB1.out)
 clear p0 p1 pf pg pl pr0 pr1 prf prg prl
 obtain ⟨p0, p1, pf, pg, pl, pr0, pr1, prf, prg, prl⟩ := HK1.out.boxw
 go_upto_region 2 with fail
 clear p0 p1 pf pg pl pr0 pr1 prf prg prl
 have HX1 := Lib.hid (HB0.out.putX HAK.out HB1.out HR1.out HS1.out)
 obtain ⟨V1, hV1⟩ : ∃ V1, V1 = (w1.setCell ⟨w.heap.size, 0, none⟩ (.string (S q1))).setCell ⟨w.heap.size, 1, none⟩ (.slice a1 n1 c1) := ⟨_, rfl⟩
 rw [← hV1] at HX1 ⊢
 clear hV1 CP HK1
 obtain ⟨s1, hs1⟩ : ∃ s, putS (stOf out0 ds0) [40] = s := ⟨_, rfl⟩
 have HXS : Hid (InX w V1 B 92 #[.slice aw n cw, .slice ab nb cb] s1) := Lib.hid (by rw [← hs1]; exact HX1.out)
 rw [hs1] at HLEN HZ2 HZ3 HZ4 HAR
 clear HX1 hs1
 go_wp2_with fail
 go_loopw [5] (fun i V => ∃ (k : Nat), k ≤ n ∧ i = .int .i64 k ∧ InX w V B 92 #[.slice aw n cw, .slice ab nb cb] (barsS (levS d).1 s1 (l.take k) false)) (fun i _ => n - (intOf i).toNat)
 case atStart => exact ⟨0, Nat.zero_le _, rfl, HXS.out⟩
 case round =>
  obtain ⟨k, hk, rfl, hb⟩ := hrel
  obtain ⟨da, nd, dc, q, ds, hb, hst, hnd, hak⟩ := hb.open
  have HB := Lib.hid hb
  have HST := Lib.hid hst
  have HAK2 := Lib.hid hak
  clear hb hst hnd hak
  obtain ⟨x0, x1, xl⟩ := HAK2.out.box2
  by_cases hlt : k < n
  · obtain ⟨y, hy⟩ : ∃ y, l[k]? = .some y := ⟨_, List.getElem?_eq_getElem (by rw [HN.out]; exact hlt)⟩
    obtain ⟨b, o, c, hi, hbB, hce, ⟨yv, rfl, hyp⟩, _⟩ := HL.out.at 59 41 Tryz.underlying59 (by kernel_rfl) hy
    obtain ⟨a6, c6, rfl, _⟩ := hyp.shape
    have hbw := Nat.lt_of_lt_of_le hbB hBw
    have E0 := Lib.hid (hce 0 _ rfl)
    rw [Nat.add_zero] at E0
    have hbg : b ≠ w.heap.size := by omega
    have HFY := Lib.hid (HFA.out y (List.mem_of_getElem? hy))
    have HYP := Lib.hid hyp
    have HX : Hid (barsS (levS d).1 s1 (l.take (k + 1)) false = putS (bif decide (0 < k) then putS (stOf q ds) [32, 124, 32] else stOf q ds) (txtS d y)) := Lib.hid (by
     rw [take_snoc' hy, bars_snoc, ← HST.out, take_empty (by rw [HN.out]; exact hlt), Bool.false_or, levS_word])
    have HLX : Hid ((putS (bif decide (0 < k) then putS (stOf q ds) [32, 124, 32] else stOf q ds) (txtS d y)).1.length ≤ lim) := Lib.hid (by rw [← HX.out]; exact HLEN.out (k + 1))
    have hg0 : decide ((0 : Int) < (k : Int)) = decide (0 < k) := by simp
    obtain ⟨qq, hqq⟩ : ∃ b, decide (0 < k) = b := ⟨_, rfl⟩
    rw [hqq] at HX HLX hg0
    have HZ1 : Hid ((bif qq then putS (stOf q ds) [32, 124, 32] else stOf q ds).1.length ≤ lim) := Lib.hid (Nat.le_trans (putS_grow _ _) HLX.out)
    clear hy hce hyp
    go_upto_if 16 with fail
    go_cut [] (fun W => InX w W B 92 #[.slice aw n cw, .slice ab nb cb] (bif qq then putS (stOf q ds) [32, 124, 32] else stOf q ds))
    case first =>
     obtain ⟨p0, p1, pf, pg, pl, pr0, pr1, prf, prg, prl⟩ := HB.out.boxw
     cases qq with
     | false =>
       go_wp2_with fail
       go_meet
       exact ⟨⟨_, q, ds, HB.out, rfl⟩, HAK2.out⟩
     | true =>
       have CP := Lib.hid (put_at B wr _ q ds ⟨#[32, 124, 32]⟩ HB.out.rw (put_len (s := stOf q ds) (ds := ds) rfl HZ1.out))
       go_wp2_with fail
       refine CP.out.mono ?_
       rintro e w2 hrs
       obtain ⟨dv2, q2, ds2, rfl, hs2, hr2, hb2⟩ := hrs.st
       obtain ⟨a2, c2, rfl⟩ := hr2.shape
       have HB2 := Lib.hid (hb2)
       have HR2 := Lib.hid hr2
       have HS2 := Lib.hid hs2
       obtain ⟨n2, hn2⟩ : ∃ n, ds2.length = n := ⟨_, rfl⟩
       rw [hn2] at HR2 ⊢
       have HN2 := Lib.hid hn2
       clear hrs hr2 hs2 hb2 hn2
       have HK2 := Lib.hid (HB.out.later HB2.out)
       clear p0 p1 pf pg pl pr0 pr1 prf prg prl
       obtain ⟨p0, p1, pf, pg, pl, pr0, pr1, prf, prg, prl⟩ := HK2.out.boxw
       go_wp2_with fail
       go_meet
       exact HB.out.putX HAK2.out HB2.out HR2.out HS2.out
    case rest =>
     clear HB HAK2 x0 x1 xl
     obtain ⟨da2, nd2, dc2, q2, ds2, hb2, hst2, hnd2, hak⟩ := hcut.open
     have HB2 := Lib.hid hb2
     have HST2 := Lib.hid hst2
     have HAK3 := Lib.hid hak
     clear hcut hb2 hst2 hak
     rw [← HST2.out] at HX HLX
     have HLO := Lib.hid HB2.out.low
     have e0 := (HLO.out.cell hbw).trans E0.out
     have hbr : b < wc.heap.size := Nat.lt_of_lt_of_le hbw HLO.out.size
     have hlt2 : (txtS d y).length ≤ lim := by
      have := HLX.out
      rw [putS, List.length_append] at this
      omega
     have CT : Hid (∀ V, Below wc.heap.size wc V → Calls Tryz.prog 84 #[.slice a6 y.length c6] V fun e w' => e = .returned (.string (S (txtS d y))) ∧ Below V.heap.size V w') := Lib.hid fun V hV =>
      HT.out V _ _ (by have := hV.size; have := HLO.out.size; omega) (HYP.out.below ((HLO.out.trans (hV.mono HLO.out.size)).mono hBw)) HFY.out hlt2
     have CP : Hid (∀ V, Below wc.heap.size wc V → Calls Tryz.prog 83 #[.agg #[.string (S q2), .slice da2 nd2 dc2], .string (S (txtS d y))] V (RS V B (putS (stOf q2 ds2) (txtS d y)))) := Lib.hid fun V hV =>
      put_at B V _ q2 ds2 (S (txtS d y)) (HB2.out.rw.below hV) (put_len (s := stOf q2 ds2) (ds := ds2) rfl HLX.out)
     obtain ⟨ny, hny⟩ : ∃ t, y.length = t := ⟨_, rfl⟩
     rw [hny] at CT e0
     obtain ⟨tw, htw⟩ : ∃ t, txtS d y = t := ⟨_, rfl⟩
     rw [htw] at CT CP HX
     obtain ⟨st, hst⟩ : ∃ t, S tw = t := ⟨_, rfl⟩
     rw [hst] at CT CP
     clear hlt2 hny htw hst HLX HZ1 hnd2 hg0
     go_upto_region 7 with fail
     obtain ⟨x0, x1, xl⟩ := HAK3.out.box2
     obtain ⟨p0, p1, pf, pg, pl, pr0, pr1, prf, prg, prl⟩ := HB2.out.boxw
     clear x1
     refine wp_region_held_drew (S := fun w' => w'.cell? ⟨w.heap.size + 1, 0, none⟩ = some (.slice aw n cw) ∧ w'.cell? ⟨b, o, none⟩ = some (.slice a6 ny c6)) (by kernel_rfl) ?_ (fun hHeld => ?_)
     · exact ⟨x0, e0⟩
     refine tk 1 ?_
     refine tk 2 ?_
     refine tk 3 ?_
     refine tk 4 ?_
     refine tk 5 ?_
     try simp only [Act.put, List.getElem_toArray, List.getElem_cons_zero, List.getElem_cons_succ, List.setIfInBounds_toArray, List.set_cons_zero, List.set_cons_succ]
     refine wpAnyH_ready (rs := [0, 6]) (by kernel_rfl) (by simp) ?_
     refine AllReadyH.cons rfl (fun K hK => ?_) (AllReadyH.cons rfl (fun K hK => ?_) AllReadyH.nil)
     · go_simp
       refine hK.out _ _ ?_ (fun hHeld => ?_)
       · exact ⟨x0, e0⟩
       clear hK K
       try simp only [Act.put, List.getElem_toArray, List.getElem_cons_zero, List.getElem_cons_succ, List.setIfInBounds_toArray, List.set_cons_zero, List.set_cons_succ]
       refine wpAnyH_ready (rs := [6]) (by kernel_rfl) (by simp) ?_
       refine AllReadyH.cons rfl (fun K hK => ?_) AllReadyH.nil
       go_simp
       go_at_call 84
       refine (CT.out _ (Below.drew (Below.refl _ _))).mono ?_
       rintro e v1 ⟨rfl, hv1⟩
       have HBV : Hid (Below wc.heap.size wc v1) := Lib.hid (((Below.refl _ _).drew).trans (show Below wc.heap.size wc.drew v1 from hv1))
       clear hv1
       go_wp2_with fail
       refine hK.out _ _ ?_ (fun hHeld => ?_)
       · exact ⟨(HBV.out.cell xl).trans x0, (HBV.out.cell hbr).trans e0⟩
       clear hK K
       try simp only [Act.put, List.getElem_toArray, List.getElem_cons_zero, List.getElem_cons_succ, List.setIfInBounds_toArray, List.set_cons_zero, List.set_cons_succ]
       refine wpAnyH_ready (rs := [7]) (by kernel_rfl) (by simp) ?_
       refine AllReadyH.cons rfl (fun K hK => ?_) AllReadyH.nil
       go_simp
       go_at_call 83
       refine (CP.out _ HBV.out).mono ?_
       rintro e w3 hrs
       obtain ⟨dv3, q3, ds3, rfl, hs3, hr3, hb3⟩ := hrs.st
       obtain ⟨a3, c3, rfl⟩ := hr3.shape
       have HB3 := Lib.hid (HBV.out.trans (hb3.mono HBV.out.size))
       have HR3 := Lib.hid hr3
       have HS3 := Lib.hid hs3
       obtain ⟨n3, hn3⟩ : ∃ n, ds3.length = n := ⟨_, rfl⟩
       rw [hn3] at HR3 ⊢
       have HN3 := Lib.hid hn3
       clear hrs hr3 hs3 hb3 hn3
       have HK3 := Lib.hid (HB2.out.later HB3.out)
       clear p0 p1 pf pg pl pr0 pr1 prf prg prl
       obtain ⟨p0, p1, pf, pg, pl, pr0, pr1, prf, prg, prl⟩ := HK3.out.boxw
       go_wp2_with fail
       refine hK.out _ _ ?_ (fun hHeld => ?_)
       · exact ⟨(HB3.out.cell xl).trans x0, (HB3.out.cell hbr).trans e0⟩
       clear hK K
       try simp only [Act.put, List.getElem_toArray, List.getElem_cons_zero, List.getElem_cons_succ, List.setIfInBounds_toArray, List.set_cons_zero, List.set_cons_succ]
       refine wpAnyH_ready (rs := [8]) (by kernel_rfl) (by simp) ?_
       refine AllReadyH.cons rfl (fun K hK => ?_) AllReadyH.nil
       go_simp
       refine hK.out _ _ ?_ (fun hHeld => ?_)
       · exact ⟨cell_far2 ((HB3.out.cell xl).trans x0) (by omega), cell_far2 ((HB3.out.cell hbr).trans e0) hbg⟩
       clear hK K
       try simp only [Act.put, List.getElem_toArray, List.getElem_cons_zero, List.getElem_cons_succ, List.setIfInBounds_toArray, List.set_cons_zero, List.set_cons_succ]
       refine wpAnyH_done (by kernel_rfl) ?_ _
       have HE3 := Lib.hid (HB2.out.putX HAK3.out HB3.out HR3.out HS3.out)
       clear p0 p1 pf pg pl pr0 pr1 prf prg prl
       clear hHeld
       go_wp2_with fail
       go_roundw
       case rel => exact ⟨k + 1, by omega, by go_num, by rw [HX.out]; exact HE3.out⟩
       case measure => simp [intOf]; omega
     · go_simp
       go_at_call 84
       refine (CT.out _ (Below.drew (Below.refl _ _))).mono ?_
       rintro e v1 ⟨rfl, hv1⟩
       have HBV : Hid (Below wc.heap.size wc v1) := Lib.hid (((Below.refl _ _).drew).trans (show Below wc.heap.size wc.drew v1 from hv1))
       clear hv1
       go_wp2_with fail
       refine hK.out _ _ ?_ (fun hHeld => ?_)
       · exact ⟨(HBV.out.cell xl).trans x0, (HBV.out.cell hbr).trans e0⟩
       clear hK K
       try simp only [Act.put, List.getElem_toArray, List.getElem_cons_zero, List.getElem_cons_succ, List.setIfInBounds_toArray, List.set_cons_zero, List.set_cons_succ]
       have HKV := Lib.hid (HB2.out.later HBV.out)
       clear p0 p1 pf pg pl pr0 pr1 prf prg prl
       obtain ⟨p0, p1, pf, pg, pl, pr0, pr1, prf, prg, prl⟩ := HKV.out.boxw
       refine wpAnyH_ready (rs := [0]) (by kernel_rfl) (by simp) ?_
       refine AllReadyH.cons rfl (fun K hK => ?_) AllReadyH.nil
       go_simp
       refine hK.out _ _ ?_ (fun hHeld => ?_)
       · exact ⟨(HBV.out.cell xl).trans x0, (HBV.out.cell hbr).trans e0⟩
       clear hK K
       try simp only [Act.put, List.getElem_toArray, List.getElem_cons_zero, List.getElem_cons_succ, List.setIfInBounds_toArray, List.set_cons_zero, List.set_cons_succ]
       refine wpAnyH_ready (rs := [7]) (by kernel_rfl) (by simp) ?_
       refine AllReadyH.cons rfl (fun K hK => ?_) AllReadyH.nil
       go_simp
       go_at_call 83
       refine (CP.out _ HBV.out).mono ?_
       rintro e w3 hrs
       obtain ⟨dv3, q3, ds3, rfl, hs3, hr3, hb3⟩ := hrs.st
       obtain ⟨a3, c3, rfl⟩ := hr3.shape
       have HB3 := Lib.hid (HBV.out.trans (hb3.mono HBV.out.size))
       have HR3 := Lib.hid hr3
       have HS3 := Lib.hid hs3
       obtain ⟨n3, hn3⟩ : ∃ n, ds3.length = n := ⟨_, rfl⟩
       rw [hn3] at HR3 ⊢
       have HN3 := Lib.hid hn3
       clear hrs hr3 hs3 hb3 hn3
       have HK3 := Lib.hid (HB2.out.later HB3.out)
       clear p0 p1 pf pg pl pr0 pr1 prf prg prl
       obtain ⟨p0, p1, pf, pg, pl, pr0, pr1, prf, prg, prl⟩ := HK3.out.boxw
       go_wp2_with fail
       refine hK.out _ _ ?_ (fun hHeld => ?_)
       · exact ⟨(HB3.out.cell xl).trans x0, (HB3.out.cell hbr).trans e0⟩
       clear hK K
       try simp only [Act.put, List.getElem_toArray, List.getElem_cons_zero, List.getElem_cons_succ, List.setIfInBounds_toArray, List.set_cons_zero, List.set_cons_succ]
       refine wpAnyH_ready (rs := [8]) (by kernel_rfl) (by simp) ?_
       refine AllReadyH.cons rfl (fun K hK => ?_) AllReadyH.nil
       go_simp
       refine hK.out _ _ ?_ (fun hHeld => ?_)
       · exact ⟨cell_far2 ((HB3.out.cell xl).trans x0) (by omega), cell_far2 ((HB3.out.cell hbr).trans e0) hbg⟩
       clear hK K
       try simp only [Act.put, List.getElem_toArray, List.getElem_cons_zero, List.getElem_cons_succ, List.setIfInBounds_toArray, List.set_cons_zero, List.set_cons_succ]
       refine wpAnyH_done (by kernel_rfl) ?_ _
       have HE3 := Lib.hid (HB2.out.putX HAK3.out HB3.out HR3.out HS3.out)
       clear p0 p1 pf pg pl pr0 pr1 prf prg prl
       clear hHeld
       go_wp2_with fail
       go_roundw
       case rel => exact ⟨k + 1, by omega, by go_num, by rw [HX.out]; exact HE3.out⟩
       case measure => simp [intOf]; omega
  · have HR : Hid (barsS (levS d).1 s1 l false = stOf q ds) := Lib.hid (by rw [HST.out, List.take_of_length_le (by rw [HN.out]; omega)])
    rw [HR.out] at HZ2 HZ3 HZ4 HAR
    have HLO := Lib.hid HB.out.low
    have CB := Lib.hid (rblock_any HLN.out HLS.out wr _ q ds ⟨#[41]⟩ am.body _ HB.out.rw (HBD.out.below (HLO.out.mono hBw)) HGB.out HZ2.out)
    obtain ⟨p0, p1, pf, pg, pl, pr0, pr1, prf, prg, prl⟩ := HB.out.boxw
    go_wp2_with fail
    refine CB.out.mono ?_
    rintro e w2 hrs
    obtain ⟨dv2, q2, ds2, rfl, hs2, hr2, hb2⟩ := hrs.st
    obtain ⟨a2, c2, rfl⟩ := hr2.shape
    have HB2 := Lib.hid (hb2)
    have HR2 := Lib.hid hr2
    have HS2 := Lib.hid hs2
    obtain ⟨n2, hn2⟩ : ∃ n, ds2.length = n := ⟨_, rfl⟩
    rw [hn2] at HR2 ⊢
    have HN2 := Lib.hid hn2
    clear hrs hr2 hs2 hb2 hn2
    have HQ2 : Hid (blockS (levS d).2.1 (stOf q ds) [41] am.body = stOf q2 ds2) := HS2
    rw [HQ2.out] at HZ3 HZ4 HAR
    have CP2 := Lib.hid (put_at B w2 _ q2 ds2 ⟨#[59, 59]⟩ HR2.out (put_len (s := stOf q2 ds2) (ds := ds2) rfl HZ3.out))
    go_wp2_with fail
    refine CP2.out.mono ?_
    rintro e w3 hrs
    obtain ⟨dv3, q3, ds3, rfl, hs3, hr3, hb3⟩ := hrs.st
    obtain ⟨a3, c3, rfl⟩ := hr3.shape
    have HB3 := Lib.hid (HB2.out.trans (hb3.mono HB2.out.size))
    have HR3 := Lib.hid hr3
    have HS3 := Lib.hid hs3
    obtain ⟨n3, hn3⟩ : ∃ n, ds3.length = n := ⟨_, rfl⟩
    rw [hn3] at HR3 ⊢
    have HN3 := Lib.hid hn3
    clear hrs hr3 hs3 hb3 hn3
    have HQ3 : Hid (putS (stOf q2 ds2) [59, 59] = stOf q3 ds3) := HS3
    rw [HQ3.out] at HZ4 HAR
    have CL := Lib.hid (HLN.out w3 _ q3 ds3 HR3.out HZ4.out)
    go_wp2_with fail
    refine CL.out.mono ?_
    rintro e w4 hrs
    obtain ⟨dv4, q4, ds4, rfl, hs4, hr4, hb4⟩ := hrs.st
    obtain ⟨a4, c4, rfl⟩ := hr4.shape
    have HB4 := Lib.hid (HB3.out.trans (hb4.mono HB3.out.size))
    have HR4 := Lib.hid hr4
    have HS4 := Lib.hid hs4
    obtain ⟨n4, hn4⟩ : ∃ n, ds4.length = n := ⟨_, rfl⟩
    rw [hn4] at HR4 ⊢
    have HN4 := Lib.hid hn4
    clear hrs hr4 hs4 hb4 hn4
    clear p0 p1 pf pg pl pr0 pr1 prf prg prl
    have HKR := Lib.hid (HB.out.later HB4.out)
    obtain ⟨z0, z1, zf, zg, zl, zr0, zr1, zrf, zrg, zrl⟩ := HKR.out.boxw
    go_wp2_with fail
    have HRS := Lib.hid (HB.out.out2 HB4.out HR4.out (HAR.out.trans HS4.out))
    have HRB := Lib.hid (HB.out.out2_res (dv' := .slice a4 n4 c4) (out' := q4) HB4.out)
    clear z0 z1 zf zg zl zr0 zr1 zrf zrg zrl
    obtain ⟨Z, hZ⟩ : ∃ Z, Z = ((w4.setCell ⟨w.heap.size + 2, 0, none⟩ (.string (S q4))).setCell ⟨w.heap.size + 2, 1, none⟩ (.slice a4 n4 c4)) := ⟨_, rfl⟩
    rw [← hZ] at HRS HRB
    have y0 := HRB.out.cell 0
    have y1 := HRB.out.cell 1
    simp at y0 y1
    try rw [← hZ]
    clear hZ
    refine bodyPost_ret (v := .agg #[.string (S q4), .slice a4 n4 c4]) (by simp [results, Tryz.results87, go_sem, y0, y1]) rfl HRS.out
end Go.Proofs.YtnackmnoldkihaaGreatDoor
