/-
  The walk of the writer's compound.
-/
import Derived.Test.YtnackmnoldkihaaGreatDoorW19
set_option linter.unusedVariables false
set_option linter.unusedSimpArgs false
namespace Go.Proofs.YtnackmnoldkihaaGreatDoor
open Go.RowKit

/-- A list of a command. -/
theorem LssIn.nth {w : World} {B d : Nat} {x : Nd} {v : Value} (h : LssIn w B d x.lists v) (k : Nat) (i : Int) (e : i = k) (hk : k < x.lists.length) : ∃ y b o a c, listAt x k = y ∧ y ∈ x.lists ∧ (∀ w' : World, (Instr.indexAt 35 v (.int .i64 i)).run Tryz.prog w' = .ok (.pointer (some ⟨b, o, none⟩)) w') ∧ b < B ∧
 w.cell? ⟨b, o, none⟩ = some (.slice a y.length c) ∧ NdsIn w B d y (.slice a y.length c) := by
 obtain ⟨y, hy⟩ : ∃ y, x.lists[k]? = .some y := ⟨_, List.getElem?_eq_getElem hk⟩
 obtain ⟨b, o, c, hi, hb, hc, ⟨v, rfl, hp⟩, _⟩ := h.at 35 22 Tryz.underlying35 (by kernel_rfl) hy
 obtain ⟨a, cap, rfl, _⟩ := hp.shape
 exact ⟨y, b, o, a, cap, by rw [listAt, List.getD, hy]; rfl, List.mem_of_getElem? hy, fun w' => by rw [e]; exact hi w', hb, hc 0 _ rfl, hp⟩
theorem NdC.later2 {W U : World} {B d : Nat} {x : Nd} {c : List Value} (h : NdC W B d x c) (hb : Below B W U) : NdC U B d x c := h.keep fun _ _ _ _ hs => hs.below hb

set_option maxHeartbeats 4000000 in
set_option maxRecDepth 100000 in
theorem wcompound_any {d : Nat} {wd : St → List Pt → St} {fw : List Pt → Bool} (hwd : WordW d wd fw) (hg : Grow2 wd) {wl : St → List Nd → St} {fl : List Nd → Bool} (hwl : ListW d wl fl) (hgl : Grow2 wl) {W : World} {B b : Nat} {dv : Value} {out : List UInt8} {ds : List DocV} (x : Nd) (c : List Value) (h : Wr W B b dv out ds) (hH : Hd W B) (hc : NdC W B d x c) (hsh : shapeF x = true) (hno : ((x.kind == 1) || ((x.kind == 2 || x.kind == 3) || x.kind == 4)) = false) (hno2 : (x.kind == 5 || x.kind == 11) = false) (hfw : x.words.all fw = true) (hfl : x.lists.all fl = true) (hfa : x.arms.all (fun a => a.words.all fw && fl a.body) = true) (hlen : (compS wd wl (stOf out ds) x).1.length ≤ lim) :
 Calls Tryz.prog 79 #[.pointer (some ⟨b, 0, none⟩), .agg c.toArray] W fun e w' => e = .returned (.tuple #[]) ∧ Shown W B b dv (compS wd wl (stOf out ds) x) w' := by
 have HC := Lib.hid hc
 obtain ⟨a1, c1, a2, c2, a3, c3, a4, c4, a5, c5, rfl, hxz, ⟨hn1, hn2, hn3, hn4, hn5⟩, _, hWd, _, hLs, _⟩ := hc.open
 obtain ⟨n1, hl1⟩ : ∃ n, x.assigns.length = n := ⟨_, rfl⟩
 obtain ⟨n2, hl2⟩ : ∃ n, x.words.length = n := ⟨_, rfl⟩
 obtain ⟨n3, hl3⟩ : ∃ n, x.redirs.length = n := ⟨_, rfl⟩
 obtain ⟨n4, hl4⟩ : ∃ n, x.lists.length = n := ⟨_, rfl⟩
 obtain ⟨n5, hl5⟩ : ∃ n, x.arms.length = n := ⟨_, rfl⟩
 rw [hl2] at hn2 hWd
 rw [hl4] at hn4 hLs
 rw [hl1, hl2, hl3, hl4, hl5] at HC ⊢
 have HL := Lib.hid hLs
 have HWS := Lib.hid hWd
 have HH := Lib.hid hH
 have HWD := Lib.hid hwd
 have HWL := Lib.hid hwl
 have HG := Lib.hid hg
 have HGL := Lib.hid hgl
 have HW := Lib.hid h
 have HFW := Lib.hid (List.all_eq_true.1 hfw)
 have HFW0 := Lib.hid hfw
 have HFL := Lib.hid (List.all_eq_true.1 hfl)
 have HFA := Lib.hid hfa
 have N2 := Lib.hid hl2
 have N4 := Lib.hid hl4
 obtain ⟨s0, hs0⟩ : ∃ s, stOf out ds = s := ⟨_, rfl⟩
 rw [hs0] at hlen ⊢
 have HS0 := Lib.hid hs0
 obtain ⟨r, hr⟩ : ∃ r, compS wd wl s0 x = r := ⟨_, rfl⟩
 rw [hr] at hlen ⊢
 have HLEN := Lib.hid hlen
 obtain ⟨xk, hxk⟩ : ∃ k, x.kind = k := ⟨_, rfl⟩
 rw [compS, hxk] at hr
 rw [shapeF, hxk] at hsh
 rw [hxk] at hno hno2 HC ⊢
 rw [Bool.or_eq_false_iff] at hno
 rw [hno.1, hno.2, hno2] at hsh
 have HR := Lib.hid hr
 have HSF := Lib.hid hsh
 have HXK := Lib.hid hxk
 have hle := h.le
 clear hl1 hl2 hl3 hl4 hl5 hWd hLs hH hwd hwl hg hgl h hfa hfw hfl hlen hc hs0 hr hxk hsh hno hno2
 obtain ⟨nc, hnc⟩ : ∃ cs : Array Value, cs = #[.int .i64 xk, .string x.name, .slice a1 n1 c1, .slice a2 n2 c2, .slice a3 n3 c3, .slice a4 n4 c4, .slice a5 n5 c5] := ⟨_, rfl⟩
 have HNC := Lib.hid hnc
 obtain ⟨U, hU⟩ : ∃ U, U = W.alloc (.cells nc 38) := ⟨_, rfl⟩
 have HB0 : Hid (Blk U W.heap.size 38 nc) := Lib.hid (by rw [hU]; exact Blk.at rfl)
 have HBL : Hid (Below W.heap.size W U) := Lib.hid (by rw [hU]; exact (Below.refl _ _).alloc (Nat.le_refl _) _)
 rw [hnc] at hU
 have HUE := Lib.hid hU
 clear hU hnc
 have HSU : Hid (Shown W B b dv s0 U) := Lib.hid (by have := (Shown.start HW.out).later HBL.out; rwa [HS0.out] at this)
 cases k6 : (xk == 6) with
 | true =>
   have h2 : 2 ≤ n4 := by have := HSF.out; rw [k6] at this; simpa [N4.out] using this
   obtain ⟨y0, bk0, ok0, ak0, ck0, hy0, hm0, hi0, hb0, hc0, hl0⟩ := LssIn.nth (N4.out ▸ HL.out) 0 0 rfl (by rw [N4.out]; omega)
   rw [N4.out] at hi0
   have HY0 := Lib.hid hl0
   have HLA0 := Lib.hid hy0
   have HF0 := Lib.hid (HFL.out _ hm0)
   have hb0' := Nat.lt_of_lt_of_le hb0 hle
   clear hl0 hy0 hm0
   obtain ⟨y1, bk1, ok1, ak1, ck1, hy1, hm1, hi1, hb1, hc1, hl1⟩ := LssIn.nth (N4.out ▸ HL.out) 1 1 rfl (by rw [N4.out]; omega)
   rw [N4.out] at hi1
   have HY1 := Lib.hid hl1
   have HLA1 := Lib.hid hy1
   have HF1 := Lib.hid (HFL.out _ hm1)
   have hb1' := Nat.lt_of_lt_of_le hb1 hle
   clear hl1 hy1 hm1
   obtain ⟨t1, ht1⟩ : ∃ s, blockS wl s0 [105, 102] y0 = s := ⟨_, rfl⟩
   obtain ⟨t2, ht2⟩ : ∃ s, blockS wl t1 [116, 104, 101, 110] y1 = s := ⟨_, rfl⟩
   have T1 := Lib.hid ht1
   have T2 := Lib.hid ht2
   clear ht1 ht2
   by_cases h3 : 2 < n4
   · have tok0 : True := trivial
     obtain ⟨y2, bk2, ok2, ak2, ck2, hy2, hm2, hi2, hb2, hc2, hl2⟩ := LssIn.nth (N4.out ▸ HL.out) 2 2 rfl (by rw [N4.out]; omega)
     rw [N4.out] at hi2
     have HY2 := Lib.hid hl2
     have HLA2 := Lib.hid hy2
     have HF2 := Lib.hid (HFL.out _ hm2)
     have hb2' := Nat.lt_of_lt_of_le hb2 hle
     clear hl2 hy2 hm2
     obtain ⟨t3, ht3⟩ : ∃ s, blockS wl t2 [101, 108, 115, 101] y2 = s := ⟨_, rfl⟩
     have T3 := Lib.hid ht3
     clear ht3
     have HE : Hid (r = putS t3 [102, 105]) := Lib.hid (by rw [← HR.out, k6, N4.out, decide_eq_true h3, HLA0.out, HLA1.out, HLA2.out]; show putS (blockS wl (blockS wl (blockS wl s0 _ _) _ _) _ _) _ = _; rw [T1.out, T2.out, T3.out])
     have HZ3 : Hid (t3.1.length ≤ lim) := Lib.hid (Nat.le_trans (putS_grow _ _) (by have := HLEN.out; rw [HE.out] at this; exact this))
     have HZ2 : Hid (t2.1.length ≤ lim) := Lib.hid (Nat.le_trans (by rw [← T3.out]; exact blockS_grow HGL.out _ _ _) HZ3.out)
     have e6 : decide ((2 : Int) < (n4 : Int)) = true := by simp; omega
     have HZ1 : Hid (t1.1.length ≤ lim) := Lib.hid (Nat.le_trans (by rw [← T2.out]; exact blockS_grow HGL.out _ _ _) HZ2.out)
     have C1 := Lib.hid (HSU.out.block2 HWL.out HGL.out (Below.refl _ _) HH.out ⟨#[105, 102]⟩ HY0.out HF0.out (by have := HZ1.out; rw [← T1.out] at this; exact this))
     rw [show blockS wl s0 (L ⟨#[105, 102]⟩) y0 = t1 from T1.out] at C1
     go_enter Tryz.func79, Tryz.ntmps79
     go_wp2_with fail
     rw [← HUE.out]
     refine C1.out.mono ?_
     rintro e w1 ⟨rfl, hsw1, hkw1⟩
     have HBw1 := Lib.hid (hkw1 _ _ _ HB0.out (by decide) (by decide) (by decide))
     have HSw1 := Lib.hid hsw1
     have HBN := Lib.hid (HNC.out ▸ HBw1.out)
     clear hsw1 hkw1 C1
     obtain ⟨p0, p1, p2, p3, p4, p5, p6, pl⟩ := HBN.out.box7
     have e1 := (HSw1.out.low.cell hb1).trans hc1
     have C2 := Lib.hid (HSw1.out.block2 HWL.out HGL.out (Below.refl _ _) HH.out ⟨#[116, 104, 101, 110]⟩ HY1.out HF1.out (by have := HZ2.out; rw [← T2.out] at this; exact this))
     rw [show blockS wl t1 (L ⟨#[116, 104, 101, 110]⟩) y1 = t2 from T2.out] at C2
     go_wp2_with fail
     clear p0 p1 p2 p3 p4 p5 p6 pl HBN e1
     refine C2.out.mono ?_
     rintro e w2 ⟨rfl, hsw2, hkw2⟩
     have HBw2 := Lib.hid (hkw2 _ _ _ HBw1.out (by decide) (by decide) (by decide))
     have HSw2 := Lib.hid hsw2
     have HBN := Lib.hid (HNC.out ▸ HBw2.out)
     clear hsw2 hkw2 C2
     obtain ⟨p0, p1, p2, p3, p4, p5, p6, pl⟩ := HBN.out.box7
     have e2 := (HSw2.out.low.cell hb2).trans hc2
     have C3 := Lib.hid (HSw2.out.block2 HWL.out HGL.out (Below.refl _ _) HH.out ⟨#[101, 108, 115, 101]⟩ HY2.out HF2.out (by have := HZ3.out; rw [← T3.out] at this; exact this))
     rw [show blockS wl t2 (L ⟨#[101, 108, 115, 101]⟩) y2 = t3 from T3.out] at C3
     go_wp2_with fail
     clear p0 p1 p2 p3 p4 p5 p6 pl HBN e2
     refine C3.out.mono ?_
     rintro e w3 ⟨rfl, hsw3, hkw3⟩
     have HBw3 := Lib.hid (hkw3 _ _ _ HBw2.out (by decide) (by decide) (by decide))
     have HSw3 := Lib.hid hsw3
     have HBN := Lib.hid (HNC.out ▸ HBw3.out)
     clear hsw3 hkw3 C3
     obtain ⟨p0, p1, p2, p3, p4, p5, p6, pl⟩ := HBN.out.box7
     have CE := Lib.hid (HSw3.out.str (Below.refl _ _) ⟨#[102, 105]⟩ (by have := HLEN.out; rw [HE.out] at this; simpa [putS] using this))
     go_wp2_with fail
     refine CE.out.mono ?_
     rintro e w9 ⟨rfl, hs9⟩
     have HS9 := Lib.hid hs9
     clear hs9
     go_wp2_with fail
     go_end0
     exact ⟨rfl, by rw [HE.out]; exact HS9.out⟩
   · have HE : Hid (r = putS t2 [102, 105]) := Lib.hid (by rw [← HR.out, k6, N4.out, decide_eq_false h3, HLA0.out, HLA1.out]; show putS (blockS wl (blockS wl s0 _ _) _ _) _ = _; rw [T1.out, T2.out])
     have HZ2 : Hid (t2.1.length ≤ lim) := Lib.hid (Nat.le_trans (putS_grow _ _) (by have := HLEN.out; rw [HE.out] at this; exact this))
     have e6 : decide ((2 : Int) < (n4 : Int)) = false := by simp; omega
     have HZ1 : Hid (t1.1.length ≤ lim) := Lib.hid (Nat.le_trans (by rw [← T2.out]; exact blockS_grow HGL.out _ _ _) HZ2.out)
     have C1 := Lib.hid (HSU.out.block2 HWL.out HGL.out (Below.refl _ _) HH.out ⟨#[105, 102]⟩ HY0.out HF0.out (by have := HZ1.out; rw [← T1.out] at this; exact this))
     rw [show blockS wl s0 (L ⟨#[105, 102]⟩) y0 = t1 from T1.out] at C1
     go_enter Tryz.func79, Tryz.ntmps79
     go_wp2_with fail
     rw [← HUE.out]
     refine C1.out.mono ?_
     rintro e w1 ⟨rfl, hsw1, hkw1⟩
     have HBw1 := Lib.hid (hkw1 _ _ _ HB0.out (by decide) (by decide) (by decide))
     have HSw1 := Lib.hid hsw1
     have HBN := Lib.hid (HNC.out ▸ HBw1.out)
     clear hsw1 hkw1 C1
     obtain ⟨p0, p1, p2, p3, p4, p5, p6, pl⟩ := HBN.out.box7
     have e1 := (HSw1.out.low.cell hb1).trans hc1
     have C2 := Lib.hid (HSw1.out.block2 HWL.out HGL.out (Below.refl _ _) HH.out ⟨#[116, 104, 101, 110]⟩ HY1.out HF1.out (by have := HZ2.out; rw [← T2.out] at this; exact this))
     rw [show blockS wl t1 (L ⟨#[116, 104, 101, 110]⟩) y1 = t2 from T2.out] at C2
     go_wp2_with fail
     clear p0 p1 p2 p3 p4 p5 p6 pl HBN e1
     refine C2.out.mono ?_
     rintro e w2 ⟨rfl, hsw2, hkw2⟩
     have HBw2 := Lib.hid (hkw2 _ _ _ HBw1.out (by decide) (by decide) (by decide))
     have HSw2 := Lib.hid hsw2
     have HBN := Lib.hid (HNC.out ▸ HBw2.out)
     clear hsw2 hkw2 C2
     obtain ⟨p0, p1, p2, p3, p4, p5, p6, pl⟩ := HBN.out.box7
     have CE := Lib.hid (HSw2.out.str (Below.refl _ _) ⟨#[102, 105]⟩ (by have := HLEN.out; rw [HE.out] at this; simpa [putS] using this))
     go_wp2_with fail
     refine CE.out.mono ?_
     rintro e w9 ⟨rfl, hs9⟩
     have HS9 := Lib.hid hs9
     clear hs9
     go_wp2_with fail
     go_end0
     exact ⟨rfl, by rw [HE.out]; exact HS9.out⟩
 | false =>
 cases k7 : (xk == 7) with
 | true =>
   have h2 : 2 ≤ n4 := by have := HSF.out; rw [k6, k7] at this; simpa [N4.out] using this
   obtain ⟨y0, bk0, ok0, ak0, ck0, hy0, hm0, hi0, hb0, hc0, hl0⟩ := LssIn.nth (N4.out ▸ HL.out) 0 0 rfl (by rw [N4.out]; omega)
   rw [N4.out] at hi0
   have HY0 := Lib.hid hl0
   have HLA0 := Lib.hid hy0
   have HF0 := Lib.hid (HFL.out _ hm0)
   have hb0' := Nat.lt_of_lt_of_le hb0 hle
   clear hl0 hy0 hm0
   obtain ⟨y1, bk1, ok1, ak1, ck1, hy1, hm1, hi1, hb1, hc1, hl1⟩ := LssIn.nth (N4.out ▸ HL.out) 1 1 rfl (by rw [N4.out]; omega)
   rw [N4.out] at hi1
   have HY1 := Lib.hid hl1
   have HLA1 := Lib.hid hy1
   have HF1 := Lib.hid (HFL.out _ hm1)
   have hb1' := Nat.lt_of_lt_of_le hb1 hle
   clear hl1 hy1 hm1
   obtain ⟨t1, ht1⟩ : ∃ s, blockS wl s0 [119, 104, 105, 108, 101] y0 = s := ⟨_, rfl⟩
   obtain ⟨t2, ht2⟩ : ∃ s, blockS wl t1 [100, 111] y1 = s := ⟨_, rfl⟩
   have T1 := Lib.hid ht1
   have T2 := Lib.hid ht2
   clear ht1 ht2
   have HE : Hid (r = putS t2 [100, 111, 110, 101]) := Lib.hid (by rw [← HR.out, k6, k7, HLA0.out, HLA1.out]; show putS (blockS wl (blockS wl s0 _ _) _ _) _ = _; rw [T1.out, T2.out])
   have HZ2 : Hid (t2.1.length ≤ lim) := Lib.hid (Nat.le_trans (putS_grow _ _) (by have := HLEN.out; rw [HE.out] at this; exact this))
   have HZ1 : Hid (t1.1.length ≤ lim) := Lib.hid (Nat.le_trans (by rw [← T2.out]; exact blockS_grow HGL.out _ _ _) HZ2.out)
   have C1 := Lib.hid (HSU.out.block2 HWL.out HGL.out (Below.refl _ _) HH.out ⟨#[119, 104, 105, 108, 101]⟩ HY0.out HF0.out (by have := HZ1.out; rw [← T1.out] at this; exact this))
   rw [show blockS wl s0 (L ⟨#[119, 104, 105, 108, 101]⟩) y0 = t1 from T1.out] at C1
   go_enter Tryz.func79, Tryz.ntmps79
   go_wp2_with fail
   rw [← HUE.out]
   refine C1.out.mono ?_
   rintro e w1 ⟨rfl, hsw1, hkw1⟩
   have HBw1 := Lib.hid (hkw1 _ _ _ HB0.out (by decide) (by decide) (by decide))
   have HSw1 := Lib.hid hsw1
   have HBN := Lib.hid (HNC.out ▸ HBw1.out)
   clear hsw1 hkw1 C1
   obtain ⟨p0, p1, p2, p3, p4, p5, p6, pl⟩ := HBN.out.box7
   have e1 := (HSw1.out.low.cell hb1).trans hc1
   have C2 := Lib.hid (HSw1.out.block2 HWL.out HGL.out (Below.refl _ _) HH.out ⟨#[100, 111]⟩ HY1.out HF1.out (by have := HZ2.out; rw [← T2.out] at this; exact this))
   rw [show blockS wl t1 (L ⟨#[100, 111]⟩) y1 = t2 from T2.out] at C2
   go_wp2_with fail
   clear p0 p1 p2 p3 p4 p5 p6 pl HBN e1
   refine C2.out.mono ?_
   rintro e w2 ⟨rfl, hsw2, hkw2⟩
   have HBw2 := Lib.hid (hkw2 _ _ _ HBw1.out (by decide) (by decide) (by decide))
   have HSw2 := Lib.hid hsw2
   have HBN := Lib.hid (HNC.out ▸ HBw2.out)
   clear hsw2 hkw2 C2
   obtain ⟨p0, p1, p2, p3, p4, p5, p6, pl⟩ := HBN.out.box7
   have CE := Lib.hid (HSw2.out.str (Below.refl _ _) ⟨#[100, 111, 110, 101]⟩ (by have := HLEN.out; rw [HE.out] at this; simpa [putS] using this))
   go_wp2_with fail
   refine CE.out.mono ?_
   rintro e w9 ⟨rfl, hs9⟩
   have HS9 := Lib.hid hs9
   clear hs9
   go_wp2_with fail
   go_end0
   exact ⟨rfl, by rw [HE.out]; exact HS9.out⟩
 | false =>
 cases k8 : (xk == 8) with
 | true =>
   have h2 : 2 ≤ n4 := by have := HSF.out; rw [k6, k7, k8] at this; simpa [N4.out] using this
   obtain ⟨y0, bk0, ok0, ak0, ck0, hy0, hm0, hi0, hb0, hc0, hl0⟩ := LssIn.nth (N4.out ▸ HL.out) 0 0 rfl (by rw [N4.out]; omega)
   rw [N4.out] at hi0
   have HY0 := Lib.hid hl0
   have HLA0 := Lib.hid hy0
   have HF0 := Lib.hid (HFL.out _ hm0)
   have hb0' := Nat.lt_of_lt_of_le hb0 hle
   clear hl0 hy0 hm0
   obtain ⟨y1, bk1, ok1, ak1, ck1, hy1, hm1, hi1, hb1, hc1, hl1⟩ := LssIn.nth (N4.out ▸ HL.out) 1 1 rfl (by rw [N4.out]; omega)
   rw [N4.out] at hi1
   have HY1 := Lib.hid hl1
   have HLA1 := Lib.hid hy1
   have HF1 := Lib.hid (HFL.out _ hm1)
   have hb1' := Nat.lt_of_lt_of_le hb1 hle
   clear hl1 hy1 hm1
   obtain ⟨t1, ht1⟩ : ∃ s, blockS wl s0 [117, 110, 116, 105, 108] y0 = s := ⟨_, rfl⟩
   obtain ⟨t2, ht2⟩ : ∃ s, blockS wl t1 [100, 111] y1 = s := ⟨_, rfl⟩
   have T1 := Lib.hid ht1
   have T2 := Lib.hid ht2
   clear ht1 ht2
   have HE : Hid (r = putS t2 [100, 111, 110, 101]) := Lib.hid (by rw [← HR.out, k6, k7, k8, HLA0.out, HLA1.out]; show putS (blockS wl (blockS wl s0 _ _) _ _) _ = _; rw [T1.out, T2.out])
   have HZ2 : Hid (t2.1.length ≤ lim) := Lib.hid (Nat.le_trans (putS_grow _ _) (by have := HLEN.out; rw [HE.out] at this; exact this))
   have HZ1 : Hid (t1.1.length ≤ lim) := Lib.hid (Nat.le_trans (by rw [← T2.out]; exact blockS_grow HGL.out _ _ _) HZ2.out)
   have C1 := Lib.hid (HSU.out.block2 HWL.out HGL.out (Below.refl _ _) HH.out ⟨#[117, 110, 116, 105, 108]⟩ HY0.out HF0.out (by have := HZ1.out; rw [← T1.out] at this; exact this))
   rw [show blockS wl s0 (L ⟨#[117, 110, 116, 105, 108]⟩) y0 = t1 from T1.out] at C1
   go_enter Tryz.func79, Tryz.ntmps79
   go_wp2_with fail
   rw [← HUE.out]
   refine C1.out.mono ?_
   rintro e w1 ⟨rfl, hsw1, hkw1⟩
   have HBw1 := Lib.hid (hkw1 _ _ _ HB0.out (by decide) (by decide) (by decide))
   have HSw1 := Lib.hid hsw1
   have HBN := Lib.hid (HNC.out ▸ HBw1.out)
   clear hsw1 hkw1 C1
   obtain ⟨p0, p1, p2, p3, p4, p5, p6, pl⟩ := HBN.out.box7
   have e1 := (HSw1.out.low.cell hb1).trans hc1
   have C2 := Lib.hid (HSw1.out.block2 HWL.out HGL.out (Below.refl _ _) HH.out ⟨#[100, 111]⟩ HY1.out HF1.out (by have := HZ2.out; rw [← T2.out] at this; exact this))
   rw [show blockS wl t1 (L ⟨#[100, 111]⟩) y1 = t2 from T2.out] at C2
   go_wp2_with fail
   clear p0 p1 p2 p3 p4 p5 p6 pl HBN e1
   refine C2.out.mono ?_
   rintro e w2 ⟨rfl, hsw2, hkw2⟩
   have HBw2 := Lib.hid (hkw2 _ _ _ HBw1.out (by decide) (by decide) (by decide))
   have HSw2 := Lib.hid hsw2
   have HBN := Lib.hid (HNC.out ▸ HBw2.out)
   clear hsw2 hkw2 C2
   obtain ⟨p0, p1, p2, p3, p4, p5, p6, pl⟩ := HBN.out.box7
   have CE := Lib.hid (HSw2.out.str (Below.refl _ _) ⟨#[100, 111, 110, 101]⟩ (by have := HLEN.out; rw [HE.out] at this; simpa [putS] using this))
   go_wp2_with fail
   refine CE.out.mono ?_
   rintro e w9 ⟨rfl, hs9⟩
   have HS9 := Lib.hid hs9
   clear hs9
   go_wp2_with fail
   go_end0
   exact ⟨rfl, by rw [HE.out]; exact HS9.out⟩
 | false =>
 cases k9 : (xk == 9) with
 | true =>
   have h2 : 1 ≤ n4 := by have := HSF.out; rw [k6, k7, k8, show (xk == 10) = false by rw [eq_of_beq k9]; rfl] at this; simpa [N4.out] using this
   obtain ⟨y0, bk0, ok0, ak0, ck0, hy0, hm0, hi0, hb0, hc0, hl0⟩ := LssIn.nth (N4.out ▸ HL.out) 0 0 rfl (by rw [N4.out]; omega)
   rw [N4.out] at hi0
   have HY0 := Lib.hid hl0
   have HLA0 := Lib.hid hy0
   have HF0 := Lib.hid (HFL.out _ hm0)
   have hb0' := Nat.lt_of_lt_of_le hb0 hle
   clear hl0 hy0 hm0
   obtain ⟨t1, ht1⟩ : ∃ s, putS s0 ([102, 111, 114, 32] ++ L x.name ++ [32, 105, 110]) = s := ⟨_, rfl⟩
   obtain ⟨t2, ht2⟩ : ∃ s, wordsS wd t1 x.words true = s := ⟨_, rfl⟩
   obtain ⟨t3, ht3⟩ : ∃ s, lineS t2 = s := ⟨_, rfl⟩
   obtain ⟨t4, ht4⟩ : ∃ s, blockS wl t3 [100, 111] y0 = s := ⟨_, rfl⟩
   have T1 := Lib.hid ht1
   have T2 := Lib.hid ht2
   have T3 := Lib.hid ht3
   have T4 := Lib.hid ht4
   clear ht1 ht2 ht3 ht4
   have HE : Hid (r = putS t4 [100, 111, 110, 101]) := Lib.hid (by rw [← HR.out, k6, k7, k8, k9, HLA0.out]; show putS (blockS wl (lineS (wordsS wd (putS s0 _) x.words true)) _ _) _ = _; rw [T1.out, T2.out, T3.out, T4.out])
   have HZ4 : Hid (t4.1.length ≤ lim) := Lib.hid (Nat.le_trans (putS_grow _ _) (by have := HLEN.out; rw [HE.out] at this; exact this))
   have HZ3 : Hid (t3.1.length ≤ lim) := Lib.hid (Nat.le_trans (by rw [← T4.out]; exact blockS_grow HGL.out _ _ _) HZ4.out)
   have HZ2 : Hid (t2.1.length ≤ lim) := Lib.hid (Nat.le_trans (by rw [← T3.out]; exact lineS_grow _) HZ3.out)
   have HZ1 : Hid (∀ k, (wordsS wd t1 (x.words.take k) true).1.length ≤ lim) := Lib.hid fun k => Nat.le_trans (words_take_le HG.out _ _ _ k) (by rw [T2.out]; exact HZ2.out)
   have ka : ∀ V : World, (Op.stringOp .add (⟨#[102, 111, 114, 32]⟩ : ByteArray) x.name).run Tryz.prog V = .ok (.string ((⟨#[102, 111, 114, 32]⟩ : ByteArray) ++ x.name)) V := fun V => run_string_add_sum V _ _ (by simp; omega)
   have kb : ∀ V : World, (Op.stringOp .add ((⟨#[102, 111, 114, 32]⟩ : ByteArray) ++ x.name) (⟨#[32, 105, 110]⟩ : ByteArray)).run Tryz.prog V = .ok (.string (((⟨#[102, 111, 114, 32]⟩ : ByteArray) ++ x.name) ++ (⟨#[32, 105, 110]⟩ : ByteArray))) V := fun V => run_string_add_sum V _ _ (by simp; omega)
   have HN0 := Lib.hid (HNC.out ▸ HB0.out)
   have CS : Hid (∀ X2, Below U.heap.size U X2 → Calls Tryz.prog 78 #[.pointer (some ⟨b, 0, none⟩), .string (((⟨#[102, 111, 114, 32]⟩ : ByteArray) ++ x.name) ++ (⟨#[32, 105, 110]⟩ : ByteArray))] X2 fun e w' => e = .returned (.tuple #[.int .i64 ((((⟨#[102, 111, 114, 32]⟩ : ByteArray) ++ x.name) ++ (⟨#[32, 105, 110]⟩ : ByteArray)).size : Nat), .nilIface]) ∧ Shown W B b dv t1 w' ∧ Keeps X2 w') := Lib.hid fun X2 hX2 => by
    have h1 := HSU.out.str2 hX2 (((⟨#[102, 111, 114, 32]⟩ : ByteArray) ++ x.name) ++ (⟨#[32, 105, 110]⟩ : ByteArray)) (by
     have h2 := HZ1.out 0
     rw [← T1.out] at h2
     simp [wordsS, putS, L_size] at h2 ⊢
     omega)
    have e : L (((⟨#[102, 111, 114, 32]⟩ : ByteArray) ++ x.name) ++ (⟨#[32, 105, 110]⟩ : ByteArray)) = [102, 111, 114, 32] ++ L x.name ++ [32, 105, 110] := by simp [L_append]
    rw [e, T1.out] at h1
    exact h1
   have hlowU := HSU.out.low
   go_enter Tryz.func79, Tryz.ntmps79
   go_wp2_with fail
   rw [← HUE.out]
   obtain ⟨p0, p1, p2, p3, p4, p5, p6, pl⟩ := HN0.out.box7
   go_still_tail 7, (by kernel_rfl)
   go_wp2_with fail
   refine (CS.out _ bg).mono ?_
   rintro e w1 ⟨rfl, hs1, hk1⟩
   have HBw1 := Lib.hid ((Keeps.trans (Keeps.of_below bg) hk1) _ _ _ HB0.out (by decide) (by decide) (by decide))
   have HS1 := Lib.hid hs1
   clear hs1 hk1 p0 p1 p2 p3 p4 p5 p6 pl HN0 CS
   have HBN := Lib.hid (HNC.out ▸ HBw1.out)
   obtain ⟨p0, p1, p2, p3, p4, p5, p6, pl⟩ := HBN.out.box7
   go_wp2_with fail
   clear p0 p1 p2 p3 p4 p5 p6 pl HBN
   go_loopw [80] (fun i U => ∃ j : Nat, j ≤ n2 ∧ i = .int .i64 j ∧ Shown W B b dv (wordsS wd t1 (x.words.take j) true) U ∧ Blk U W.heap.size 38 nc) (fun i _ => n2 - (intOf i).toNat)
   case atStart => exact ⟨0, Nat.zero_le _, rfl, HS1.out, HBw1.out⟩
   case round =>
    obtain ⟨j, hj, rfl, hsh, hbk⟩ := hrel
    obtain ⟨sj, hsj⟩ : ∃ s, wordsS wd t1 (x.words.take j) true = s := ⟨_, rfl⟩
    rw [hsj] at hsh
    have HSJ := Lib.hid hsj
    have HSH := Lib.hid hsh
    have HBK := Lib.hid hbk
    have hlow := hsh.low
    have hleW := hsh.le
    clear hsh hbk hsj HBw1 HS1
    have HBN := Lib.hid (HNC.out ▸ HBK.out)
    obtain ⟨p0, p1, p2, p3, p4, p5, p6, pl⟩ := HBN.out.box7
    by_cases hlt : j < n2
    · obtain ⟨y, hy⟩ : ∃ y, x.words[j]? = .some y := ⟨_, List.getElem?_eq_getElem (by rw [N2.out]; exact hlt)⟩
      obtain ⟨b1, o, c, hi, hbB, hce, ⟨yv, rfl, hyp⟩, _⟩ := HWS.out.at 34 29 Tryz.underlying34 (by kernel_rfl) hy
      obtain ⟨a6, c6, rfl, _⟩ := hyp.shape
      have HSX : Hid (wordsS wd t1 (x.words.take (j + 1)) true = wd (putS sj [32]) y) := Lib.hid (by
       rw [take_snoc' hy, words_snoc, HSJ.out]; rfl)
      have HLX := Lib.hid (HZ1.out (j + 1))
      rw [HSX.out] at HLX
      have HFY : Hid (fw y = true) := Lib.hid (HFW.out y (List.mem_of_getElem? hy))
      have HYP := Lib.hid hyp
      have e0 := (hlow.cell hbB).trans (hce 0 _ rfl)
      have hbB' := Nat.lt_of_lt_of_le hbB hleW
      rw [Nat.add_zero] at e0
      have CB := Lib.hid (HSH.out.byte2 (Below.refl _ _) 32 (by have := Nat.le_trans (HG.out (putS sj [32]) y) HLX.out; simpa [putS] using this))
      have HE0 : Hid (∀ V, Below B W V → V.cell? ⟨b1, o, none⟩ = some (.slice a6 y.length c6)) := Lib.hid fun V hV => (hV.cell hbB).trans (hce 0 _ rfl)
      clear hy hce hyp
      go_wp2_with fail
      refine CB.out.mono ?_
      rintro e w2 ⟨rfl, hs2, hk2⟩
      have HB2 := Lib.hid (hk2 _ _ _ HBK.out (by decide) (by decide) (by decide))
      have e0 := HE0.out w2 hs2.low
      have CW := Lib.hid (hs2.word2 HWD.out (Below.refl _ _) HH.out HYP.out HFY.out HLX.out)
      clear hs2 hk2 p0 p1 p2 p3 p4 p5 p6 pl HBN
      have HBN := Lib.hid (HNC.out ▸ HB2.out)
      obtain ⟨p0, p1, p2, p3, p4, p5, p6, pl⟩ := HBN.out.box7
      go_wp2_with fail
      refine CW.out.mono ?_
      rintro e w3 ⟨rfl, hs3, hk3⟩
      have HB3 := Lib.hid (hk3 _ _ _ HB2.out (by decide) (by decide) (by decide))
      have HS3 := Lib.hid hs3
      clear hs3 hk3
      go_wp2_with fail
      go_roundw
      case rel => exact ⟨j + 1, by omega, by go_num, by rw [HSX.out]; exact HS3.out, HB3.out⟩
      case measure => simp [intOf]; omega
    · have HTK : Hid (x.words.take j = x.words) := Lib.hid (List.take_of_length_le (by rw [N2.out]; omega))
      have HSE : Hid (sj = t2) := Lib.hid (by rw [← HSJ.out, HTK.out]; exact T2.out)
      rw [HSE.out] at HSH
      have CL := Lib.hid (HSH.out.line2 (Below.refl _ _) (by have := HZ3.out; rw [← T3.out] at this; exact this))
      rw [T3.out] at CL
      go_wp2_with fail
      clear p0 p1 p2 p3 p4 p5 p6 pl HBN
      refine CL.out.mono ?_
      rintro e w4 ⟨rfl, hsw4, hkw4⟩
      have HBw4 := Lib.hid (hkw4 _ _ _ HBK.out (by decide) (by decide) (by decide))
      have HSw4 := Lib.hid hsw4
      have HBN := Lib.hid (HNC.out ▸ HBw4.out)
      clear hsw4 hkw4 CL
      obtain ⟨p0, p1, p2, p3, p4, p5, p6, pl⟩ := HBN.out.box7
      have e0 := (HSw4.out.low.cell hb0).trans hc0
      have C2 := Lib.hid (HSw4.out.block2 HWL.out HGL.out (Below.refl _ _) HH.out ⟨#[100, 111]⟩ HY0.out HF0.out (by have := HZ4.out; rw [← T4.out] at this; exact this))
      rw [show blockS wl t3 (L ⟨#[100, 111]⟩) y0 = t4 from T4.out] at C2
      go_wp2_with fail
      clear p0 p1 p2 p3 p4 p5 p6 pl HBN e0
      refine C2.out.mono ?_
      rintro e w5 ⟨rfl, hsw5, hkw5⟩
      have HBw5 := Lib.hid (hkw5 _ _ _ HBw4.out (by decide) (by decide) (by decide))
      have HSw5 := Lib.hid hsw5
      have HBN := Lib.hid (HNC.out ▸ HBw5.out)
      clear hsw5 hkw5 C2
      obtain ⟨p0, p1, p2, p3, p4, p5, p6, pl⟩ := HBN.out.box7
      have CE := Lib.hid (HSw5.out.str (Below.refl _ _) ⟨#[100, 111, 110, 101]⟩ (by have := HLEN.out; rw [HE.out] at this; simpa [putS] using this))
      go_wp2_with fail
      refine CE.out.mono ?_
      rintro e w9 ⟨rfl, hs9⟩
      have HS9 := Lib.hid hs9
      clear hs9
      go_wp2_with fail
      go_end0
      exact ⟨rfl, by rw [HE.out]; exact HS9.out⟩
 | false =>
 cases k10 : (xk == 10) with
 | true =>
   have h2 : 0 < x.words.length := by have := HSF.out; rw [k6, k7, k8, k10] at this; cases hw : x.words with | nil => rw [hw] at this; simp at this | cons => simp
   have HE : Hid (r = caseS wd wl s0 x) := Lib.hid (by rw [← HR.out, k6, k7, k8, k9, k10]; rfl)
   have CA : Hid (Calls Tryz.prog 104 #[.pointer (some ⟨b, 0, none⟩), .agg #[.int .i64 xk, .string x.name, .slice a1 n1 c1, .slice a2 n2 c2, .slice a3 n3 c3, .slice a4 n4 c4, .slice a5 n5 c5]] U fun e w' => e = .returned (.tuple #[]) ∧ Shown W B b dv r w') := Lib.hid (by
    obtain ⟨dv1, ds1, g1, g2, g3⟩ := shown_st HSU.out
    have hlow := HSU.out.low
    have g4 := warms_any HWD.out HG.out HWL.out HGL.out x _ g1 (HH.out.below hlow) (HC.out.later2 hlow) h2 HFW0.out HFA.out (by rw [g2, ← HE.out]; exact HLEN.out)
    rw [g2, ← HE.out] at g4
    exact g4.mono fun e w' ⟨q1, q2⟩ => ⟨q1, q2.after g3⟩)
   clear h2
   go_enter Tryz.func79, Tryz.ntmps79
   go_wp2_with fail
   rw [← HUE.out]
   refine CA.out.mono ?_
   rintro e w2 ⟨rfl, hs2⟩
   have CE := Lib.hid (hs2.str (Below.refl _ _) ⟨#[]⟩ (by have := HLEN.out; simpa using this))
   clear hs2
   go_wp2_with fail
   refine CE.out.mono ?_
   rintro e w9 ⟨rfl, hs9⟩
   have HS9 := Lib.hid hs9
   clear hs9
   go_wp2_with fail
   go_end0
   exact ⟨rfl, by have := HS9.out; simpa [putS] using this⟩
 | false =>
 have h2 : 1 ≤ n4 := by have := HSF.out; rw [k6, k7, k8, k10] at this; simpa [N4.out] using this
 obtain ⟨y0, bk0, ok0, ak0, ck0, hy0, hm0, hi0, hb0, hc0, hl0⟩ := LssIn.nth (N4.out ▸ HL.out) 0 0 rfl (by rw [N4.out]; omega)
 rw [N4.out] at hi0
 have HY0 := Lib.hid hl0
 have HLA0 := Lib.hid hy0
 have HF0 := Lib.hid (HFL.out _ hm0)
 have hb0' := Nat.lt_of_lt_of_le hb0 hle
 clear hl0 hy0 hm0
 cases k12 : (xk == 12) with
 | true =>
   obtain ⟨t1, ht1⟩ : ∃ s, blockS wl s0 [40] y0 = s := ⟨_, rfl⟩
   have T1 := Lib.hid ht1
   clear ht1
   have HE : Hid (r = putS t1 [41]) := Lib.hid (by rw [← HR.out, k6, k7, k8, k9, k10, k12, HLA0.out]; show putS (blockS wl s0 _ _) _ = _; rw [T1.out])
   have HZ1 : Hid (t1.1.length ≤ lim) := Lib.hid (Nat.le_trans (putS_grow _ _) (by have := HLEN.out; rw [HE.out] at this; exact this))
   have C1 := Lib.hid (HSU.out.block2 HWL.out HGL.out (Below.refl _ _) HH.out ⟨#[40]⟩ HY0.out HF0.out (by have := HZ1.out; rw [← T1.out] at this; exact this))
   rw [show blockS wl s0 (L ⟨#[40]⟩) y0 = t1 from T1.out] at C1
   go_enter Tryz.func79, Tryz.ntmps79
   go_wp2_with fail
   rw [← HUE.out]
   refine C1.out.mono ?_
   rintro e w1 ⟨rfl, hsw1, hkw1⟩
   have HBw1 := Lib.hid (hkw1 _ _ _ HB0.out (by decide) (by decide) (by decide))
   have HSw1 := Lib.hid hsw1
   have HBN := Lib.hid (HNC.out ▸ HBw1.out)
   clear hsw1 hkw1 C1
   obtain ⟨p0, p1, p2, p3, p4, p5, p6, pl⟩ := HBN.out.box7
   have CE := Lib.hid (HSw1.out.str (Below.refl _ _) ⟨#[41]⟩ (by have := HLEN.out; rw [HE.out] at this; simpa [putS] using this))
   go_wp2_with fail
   refine CE.out.mono ?_
   rintro e w9 ⟨rfl, hs9⟩
   have HS9 := Lib.hid hs9
   clear hs9
   go_wp2_with fail
   go_end0
   exact ⟨rfl, by rw [HE.out]; exact HS9.out⟩
 | false =>
   obtain ⟨t1, ht1⟩ : ∃ s, blockS wl s0 [123] y0 = s := ⟨_, rfl⟩
   have T1 := Lib.hid ht1
   clear ht1
   have HE : Hid (r = putS t1 [125]) := Lib.hid (by rw [← HR.out, k6, k7, k8, k9, k10, k12, HLA0.out]; show putS (blockS wl s0 _ _) _ = _; rw [T1.out])
   have HZ1 : Hid (t1.1.length ≤ lim) := Lib.hid (Nat.le_trans (putS_grow _ _) (by have := HLEN.out; rw [HE.out] at this; exact this))
   have C1 := Lib.hid (HSU.out.block2 HWL.out HGL.out (Below.refl _ _) HH.out ⟨#[123]⟩ HY0.out HF0.out (by have := HZ1.out; rw [← T1.out] at this; exact this))
   rw [show blockS wl s0 (L ⟨#[123]⟩) y0 = t1 from T1.out] at C1
   go_enter Tryz.func79, Tryz.ntmps79
   go_wp2_with fail
   rw [← HUE.out]
   refine C1.out.mono ?_
   rintro e w1 ⟨rfl, hsw1, hkw1⟩
   have HBw1 := Lib.hid (hkw1 _ _ _ HB0.out (by decide) (by decide) (by decide))
   have HSw1 := Lib.hid hsw1
   have HBN := Lib.hid (HNC.out ▸ HBw1.out)
   clear hsw1 hkw1 C1
   obtain ⟨p0, p1, p2, p3, p4, p5, p6, pl⟩ := HBN.out.box7
   have CE := Lib.hid (HSw1.out.str (Below.refl _ _) ⟨#[125]⟩ (by have := HLEN.out; rw [HE.out] at this; simpa [putS] using this))
   go_wp2_with fail
   refine CE.out.mono ?_
   rintro e w9 ⟨rfl, hs9⟩
   have HS9 := Lib.hid hs9
   clear hs9
   go_wp2_with fail
   go_end0
   exact ⟨rfl, by rw [HE.out]; exact HS9.out⟩
end Go.Proofs.YtnackmnoldkihaaGreatDoor
