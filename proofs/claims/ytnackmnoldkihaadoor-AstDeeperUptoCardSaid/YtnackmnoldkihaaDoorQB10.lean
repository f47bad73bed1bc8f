/-
  The walk of the anchor.
-/
import Derived.Test.YtnackmnoldkihaaDoorQB9
/-
  The walk of the writer's compound.
-/
namespace Go.Proofs.YtnackmnoldkihaaDoor
open Go.RowKit

/-- A list of a command. -/
theorem LssIn.nth {w : World} {B d : Nat} {x : Nd} {v : Value} (h : LssIn w B d x.lists v) (k : Nat) (i : Int) (e : i = k) (hk : k < x.lists.length) : ∃ y b o a c, listAt x k = y ∧ y ∈ x.lists ∧ (∀ w' : World, (Instr.indexAt 34 v (.int .i64 i)).run Tryd.prog w' = .ok (.pointer (some ⟨b, o, none⟩)) w') ∧ b < B ∧
    w.cell? ⟨b, o, none⟩ = some (.slice a y.length c) ∧ NdsIn w B d y (.slice a y.length c) := by
  obtain ⟨y, hy⟩ : ∃ y, x.lists[k]? = .some y := ⟨_, List.getElem?_eq_getElem hk⟩
  obtain ⟨b, o, c, hi, hb, hc, ⟨v, rfl, hp⟩, _⟩ := h.at 34 22 Tryd.underlying34 (by kernel_rfl) hy
  obtain ⟨a, cap, rfl, _⟩ := hp.shape
  exact ⟨y, b, o, a, cap, by rw [listAt, List.getD, hy]; rfl, List.mem_of_getElem? hy, fun w' => by rw [e]; exact hi w', hb, hc 0 _ rfl, hp⟩
theorem NdC.later2 {W U : World} {B d : Nat} {x : Nd} {c : List Value} (h : NdC W B d x c) (hb : Below B W U) : NdC U B d x c := h.keep fun _ _ _ _ hs => hs.below hb

set_option maxHeartbeats 4000000 in
set_option maxRecDepth 100000 in
theorem wcompound_any {d : Nat} {wd : St → List Pt → St} {fw : List Pt → Bool} (hwd : WordW d wd fw) (hg : Grow2 wd) {wl : St → List Nd → St} {fl : List Nd → Bool} (hwl : ListW d wl fl) (hgl : Grow2 wl) {W : World} {B b : Nat} {dv : Value} {out : List UInt8} {ds : List DocV} (x : Nd) (c : List Value) (h : Wr W B b dv out ds) (hH : Hd W B) (hc : NdC W B d x c) (hsh : shapeF x = true) (hno : ((x.kind == 1) || ((x.kind == 2 || x.kind == 3) || x.kind == 4)) = false) (hno2 : (x.kind == 5 || x.kind == 11) = false) (hfw : x.words.all fw = true) (hfl : x.lists.all fl = true) (hfa : x.arms.all (fun a => a.words.all fw && fl a.body) = true) (hlen : (compS wd wl (stOf out ds) x).1.length ≤ lim) :
    Calls Tryd.prog 25 #[.pointer (some ⟨b, 0, none⟩), .agg c.toArray] W fun e w' => e = .returned (.tuple #[]) ∧ Shown W B b dv (compS wd wl (stOf out ds) x) w' := by
  have HC := Lib.hid hc
  obtain ⟨a1, c1, a2, c2, a3, c3, a4, c4, a5, c5, rfl, hxz, ⟨hn1, hn2, hn3, hn4, hn5⟩, _, hWd, _, hLs, _⟩ := hc.open
  obtain ⟨n1, hl1⟩ : ∃ n, x.assigns.length = n := ⟨_, rfl⟩
  obtain ⟨n2, hl2⟩ : ∃ n, x.words.length = n := ⟨_, rfl⟩
  obtain ⟨n3, hl3⟩ : ∃ n, x.redirs.length = n := ⟨_, rfl⟩
  obtain ⟨n4, hl4⟩ : ∃ n, x.lists.length = n := ⟨_, rfl⟩
  obtain ⟨n5, hl5⟩ : ∃ n, x.arms.length = n := ⟨_, rfl⟩
  rw [hl2] at hn2 hWd
  rw [hl4] at hn4 hLs
  rw [hl1, hl2, hl3, hl4, hl5] at HC ⊢
  have HL := Lib.hid hLs
  have HWS := Lib.hid hWd
  have HH := Lib.hid hH
  have HWD := Lib.hid hwd
  have HWL := Lib.hid hwl
  have HG := Lib.hid hg
  have HGL := Lib.hid hgl
  have HW := Lib.hid h
  have HFW := Lib.hid (List.all_eq_true.1 hfw)
  have HFW0 := Lib.hid hfw
  have HFL := Lib.hid (List.all_eq_true.1 hfl)
  have HFA := Lib.hid hfa
  have N2 := Lib.hid hl2
  have N4 := Lib.hid hl4
  obtain ⟨s0, hs0⟩ : ∃ s, stOf out ds = s := ⟨_, rfl⟩
  rw [hs0] at hlen ⊢
  have HS0 := Lib.hid hs0
  obtain ⟨r, hr⟩ : ∃ r, compS wd wl s0 x = r := ⟨_, rfl⟩
  rw [hr] at hlen ⊢
  have HLEN := Lib.hid hlen
  obtain ⟨xk, hxk⟩ : ∃ k, x.kind = k := ⟨_, rfl⟩
  rw [compS, hxk] at hr
  rw [shapeF, hxk] at hsh
  rw [hxk] at hno hno2 HC ⊢
  rw [Bool.or_eq_false_iff] at hno
  rw [hno.1, hno.2, hno2] at hsh
  have HR := Lib.hid hr
  have HSF := Lib.hid hsh
  have HXK := Lib.hid hxk
  have hle := h.le
  clear hl1 hl2 hl3 hl4 hl5 hWd hLs hH hwd hwl hg hgl h hfa hfw hfl hlen hc hs0 hr hxk hsh hno hno2
  obtain ⟨nc, hnc⟩ : ∃ cs : Array Value, cs = #[.int .i64 xk, .string x.name, .slice a1 n1 c1, .slice a2 n2 c2, .slice a3 n3 c3, .slice a4 n4 c4, .slice a5 n5 c5] := ⟨_, rfl⟩
  have HNC := Lib.hid hnc
  obtain ⟨U, hU⟩ : ∃ U, U = W.alloc (.cells nc 37) := ⟨_, rfl⟩
  have HB0 : Hid (Blk U W.heap.size 37 nc) := Lib.hid (by rw [hU]; exact Blk.at rfl)
  have HBL : Hid (Below W.heap.size W U) := Lib.hid (by rw [hU]; exact (Below.refl _ _).alloc (Nat.le_refl _) _)
  rw [hnc] at hU
  have HUE := Lib.hid hU
  clear hU hnc
  have HSU : Hid (Shown W B b dv s0 U) := Lib.hid (by have := (Shown.start HW.out).later HBL.out; rwa [HS0.out] at this)
  cases k6 : (xk == 6) with
  | true =>
    have h2 : 2 ≤ n4 := by have := HSF.out; rw [k6] at this; simpa [N4.out] using this
    obtain ⟨y0, bk0, ok0, ak0, ck0, hy0, hm0, hi0, hb0, hc0, hl0⟩ := LssIn.nth (N4.out ▸ HL.out) 0 0 rfl (by rw [N4.out]; omega)
    rw [N4.out] at hi0
    have HY0 := Lib.hid hl0
    have HLA0 := Lib.hid hy0
    have HF0 := Lib.hid (HFL.out _ hm0)
    have hb0' := Nat.lt_of_lt_of_le hb0 hle
    clear hl0 hy0 hm0
    obtain ⟨y1, bk1, ok1, ak1, ck1, hy1, hm1, hi1, hb1, hc1, hl1⟩ := LssIn.nth (N4.out ▸ HL.out) 1 1 rfl (by rw [N4.out]; omega)
    rw [N4.out] at hi1
    have HY1 := Lib.hid hl1
    have HLA1 := Lib.hid hy1
    have HF1 := Lib.hid (HFL.out _ hm1)
    have hb1' := Nat.lt_of_lt_of_le hb1 hle
    clear hl1 hy1 hm1
    obtain ⟨t1, ht1⟩ : ∃ s, blockS wl s0 [105, 102] y0 = s := ⟨_, rfl⟩
    obtain ⟨t2, ht2⟩ : ∃ s, blockS wl t1 [116, 104, 101, 110] y1 = s := ⟨_, rfl⟩
    have T1 := Lib.hid ht1
    have T2 := Lib.hid ht2
    clear ht1 ht2
    by_cases h3 : 2 < n4
    · have tok0 : True := trivial
      obtain ⟨y2, bk2, ok2, ak2, ck2, hy2, hm2, hi2, hb2, hc2, hl2⟩ := LssIn.nth (N4.out ▸ HL.out) 2 2 rfl (by rw [N4.out]; omega)
      rw [N4.out] at hi2
      have HY2 := Lib.hid hl2
      have HLA2 := Lib.hid hy2
      have HF2 := Lib.hid (HFL.out _ hm2)
      have hb2' := Nat.lt_of_lt_of_le hb2 hle
      clear hl2 hy2 hm2
      obtain ⟨t3, ht3⟩ : ∃ s, blockS wl t2 [101, 108, 115, 101] y2 = s := ⟨_, rfl⟩
      have T3 := Lib.hid ht3
      clear ht3
      have HE : Hid (r = putS t3 [102, 105]) := Lib.hid (by rw [← HR.out, k6, N4.out, decide_eq_true h3, HLA0.out, HLA1.out, HLA2.out]; show putS (blockS wl (blockS wl (blockS wl s0 _ _) _ _) _ _) _ = _; rw [T1.out, T2.out, T3.out])
      have HZ3 : Hid (t3.1.length ≤ lim) := Lib.hid (Nat.le_trans (putS_grow _ _) (by have := HLEN.out; rw [HE.out] at this; exact this))
      have HZ2 : Hid (t2.1.length ≤ lim) := Lib.hid (Nat.le_trans (by rw [← T3.out]; exact blockS_grow HGL.out _ _ _) HZ3.out)
      have e6 : decide ((2 : Int) < (n4 : Int)) = true := by simp; omega
      have HZ1 : Hid (t1.1.length ≤ lim) := Lib.hid (Nat.le_trans (by rw [← T2.out]; exact blockS_grow HGL.out _ _ _) HZ2.out)
      have C1 := Lib.hid (HSU.out.block2 HWL.out HGL.out (Below.refl _ _) HH.out ⟨#[105, 102]⟩ HY0.out HF0.out (by have := HZ1.out; rw [← T1.out] at this; exact this))
      rw [show blockS wl s0 (L ⟨#[105, 102]⟩) y0 = t1 from T1.out] at C1
      go_enter Tryd.func25, Tryd.ntmps25
      go_wp2_with fail
      rw [← HUE.out]
      refine C1.out.mono ?_
      rintro e w1 ⟨rfl, hsw1, hkw1⟩
      have HBw1 := Lib.hid (hkw1 _ _ _ HB0.out (by decide) (by decide) (by decide))
      have HSw1 := Lib.hid hsw1
      have HBN := Lib.hid (HNC.out ▸ HBw1.out)
      clear hsw1 hkw1 C1
      have p0 := HBN.out.cell 0
      have p1 := HBN.out.cell 1
      have p2 := HBN.out.cell 2
      have p3 := HBN.out.cell 3
      have p4 := HBN.out.cell 4
      have p5 := HBN.out.cell 5
      have p6 := HBN.out.cell 6
      have pl := HBN.out.lt
      simp at p0 p1 p2 p3 p4 p5 p6
      have e1 := (HSw1.out.low.cell hb1).trans hc1
      have C2 := Lib.hid (HSw1.out.block2 HWL.out HGL.out (Below.refl _ _) HH.out ⟨#[116, 104, 101, 110]⟩ HY1.out HF1.out (by have := HZ2.out; rw [← T2.out] at this; exact this))
      rw [show blockS wl t1 (L ⟨#[116, 104, 101, 110]⟩) y1 = t2 from T2.out] at C2
      go_wp2_with fail
      clear p0 p1 p2 p3 p4 p5 p6 pl HBN e1
      refine C2.out.mono ?_
      rintro e w2 ⟨rfl, hsw2, hkw2⟩
      have HBw2 := Lib.hid (hkw2 _ _ _ HBw1.out (by decide) (by decide) (by decide))
      have HSw2 := Lib.hid hsw2
      have HBN := Lib.hid (HNC.out ▸ HBw2.out)
      clear hsw2 hkw2 C2
      have p0 := HBN.out.cell 0
      have p1 := HBN.out.cell 1
      have p2 := HBN.out.cell 2
      have p3 := HBN.out.cell 3
      have p4 := HBN.out.cell 4
      have p5 := HBN.out.cell 5
      have p6 := HBN.out.cell 6
      have pl := HBN.out.lt
      simp at p0 p1 p2 p3 p4 p5 p6
      have e2 := (HSw2.out.low.cell hb2).trans hc2
      have C3 := Lib.hid (HSw2.out.block2 HWL.out HGL.out (Below.refl _ _) HH.out ⟨#[101, 108, 115, 101]⟩ HY2.out HF2.out (by have := HZ3.out; rw [← T3.out] at this; exact this))
      rw [show blockS wl t2 (L ⟨#[101, 108, 115, 101]⟩) y2 = t3 from T3.out] at C3
      go_wp2_with fail
      clear p0 p1 p2 p3 p4 p5 p6 pl HBN e2
      refine C3.out.mono ?_
      rintro e w3 ⟨rfl, hsw3, hkw3⟩
      have HBw3 := Lib.hid (hkw3 _ _ _ HBw2.out (by decide) (by decide) (by decide))
      have HSw3 := Lib.hid hsw3
      have HBN := Lib.hid (HNC.out ▸ HBw3.out)
      clear hsw3 hkw3 C3
      have p0 := HBN.out.cell 0
      have p1 := HBN.out.cell 1
      have p2 := HBN.out.cell 2
      have p3 := HBN.out.cell 3
      have p4 := HBN.out.cell 4
      have p5 := HBN.out.cell 5
      have p6 := HBN.out.cell 6
      have pl := HBN.out.lt
      simp at p0 p1 p2 p3 p4 p5 p6
      have CE := Lib.hid (HSw3.out.str (Below.refl _ _) ⟨#[102, 105]⟩ (by have := HLEN.out; rw [HE.out] at this; simpa [putS] using this))
      go_wp2_with fail
      refine CE.out.mono ?_
      rintro e w9 ⟨rfl, hs9⟩
      have HS9 := Lib.hid hs9
      clear hs9
      go_wp2_with fail
      go_end0
      exact ⟨rfl, by rw [HE.out]; exact HS9.out⟩
    · have HE : Hid (r = putS t2 [102, 105]) := Lib.hid (by rw [← HR.out, k6, N4.out, decide_eq_false h3, HLA0.out, HLA1.out]; show putS (blockS wl (blockS wl s0 _ _) _ _) _ = _; rw [T1.out, T2.out])
      have HZ2 : Hid (t2.1.length ≤ lim) := Lib.hid (Nat.le_trans (putS_grow _ _) (by have := HLEN.out; rw [HE.out] at this; exact this))
      have e6 : decide ((2 : Int) < (n4 : Int)) = false := by simp; omega
      have HZ1 : Hid (t1.1.length ≤ lim) := Lib.hid (Nat.le_trans (by rw [← T2.out]; exact blockS_grow HGL.out _ _ _) HZ2.out)
      have C1 := Lib.hid (HSU.out.block2 HWL.out HGL.out (Below.refl _ _) HH.out ⟨#[105, 102]⟩ HY0.out HF0.out (by have := HZ1.out; rw [← T1.out] at this; exact this))
      rw [show blockS wl s0 (L ⟨#[105, 102]⟩) y0 = t1 from T1.out] at C1
      go_enter Tryd.func25, Tryd.ntmps25
      go_wp2_with fail
      rw [← HUE.out]
      refine C1.out.mono ?_
      rintro e w1 ⟨rfl, hsw1, hkw1⟩
      have HBw1 := Lib.hid (hkw1 _ _ _ HB0.out (by decide) (by decide) (by decide))
      have HSw1 := Lib.hid hsw1
      have HBN := Lib.hid (HNC.out ▸ HBw1.out)
      clear hsw1 hkw1 C1
      have p0 := HBN.out.cell 0
      have p1 := HBN.out.cell 1
      have p2 := HBN.out.cell 2
      have p3 := HBN.out.cell 3
      have p4 := HBN.out.cell 4
      have p5 := HBN.out.cell 5
      have p6 := HBN.out.cell 6
      have pl := HBN.out.lt
      simp at p0 p1 p2 p3 p4 p5 p6
      have e1 := (HSw1.out.low.cell hb1).trans hc1
      have C2 := Lib.hid (HSw1.out.block2 HWL.out HGL.out (Below.refl _ _) HH.out ⟨#[116, 104, 101, 110]⟩ HY1.out HF1.out (by have := HZ2.out; rw [← T2.out] at this; exact this))
      rw [show blockS wl t1 (L ⟨#[116, 104, 101, 110]⟩) y1 = t2 from T2.out] at C2
      go_wp2_with fail
      clear p0 p1 p2 p3 p4 p5 p6 pl HBN e1
      refine C2.out.mono ?_
      rintro e w2 ⟨rfl, hsw2, hkw2⟩
      have HBw2 := Lib.hid (hkw2 _ _ _ HBw1.out (by decide) (by decide) (by decide))
      have HSw2 := Lib.hid hsw2
      have HBN := Lib.hid (HNC.out ▸ HBw2.out)
      clear hsw2 hkw2 C2
      have p0 := HBN.out.cell 0
      have p1 := HBN.out.cell 1
      have p2 := HBN.out.cell 2
      have p3 := HBN.out.cell 3
      have p4 := HBN.out.cell 4
      have p5 := HBN.out.cell 5
      have p6 := HBN.out.cell 6
      have pl := HBN.out.lt
      simp at p0 p1 p2 p3 p4 p5 p6
      have CE := Lib.hid (HSw2.out.str (Below.refl _ _) ⟨#[102, 105]⟩ (by have := HLEN.out; rw [HE.out] at this; simpa [putS] using this))
      go_wp2_with fail
      refine CE.out.mono ?_
      rintro e w9 ⟨rfl, hs9⟩
      have HS9 := Lib.hid hs9
      clear hs9
      go_wp2_with fail
      go_end0
      exact ⟨rfl, by rw [HE.out]; exact HS9.out⟩
  | false =>
  cases k7 : (xk == 7) with
  | true =>
    have h2 : 2 ≤ n4 := by have := HSF.out; rw [k6, k7] at this; simpa [N4.out] using this
    obtain ⟨y0, bk0, ok0, ak0, ck0, hy0, hm0, hi0, hb0, hc0, hl0⟩ := LssIn.nth (N4.out ▸ HL.out) 0 0 rfl (by rw [N4.out]; omega)
    rw [N4.out] at hi0
    have HY0 := Lib.hid hl0
    have HLA0 := Lib.hid hy0
    have HF0 := Lib.hid (HFL.out _ hm0)
    have hb0' := Nat.lt_of_lt_of_le hb0 hle
    clear hl0 hy0 hm0
    obtain ⟨y1, bk1, ok1, ak1, ck1, hy1, hm1, hi1, hb1, hc1, hl1⟩ := LssIn.nth (N4.out ▸ HL.out) 1 1 rfl (by rw [N4.out]; omega)
    rw [N4.out] at hi1
    have HY1 := Lib.hid hl1
    have HLA1 := Lib.hid hy1
    have HF1 := Lib.hid (HFL.out _ hm1)
    have hb1' := Nat.lt_of_lt_of_le hb1 hle
    clear hl1 hy1 hm1
    obtain ⟨t1, ht1⟩ : ∃ s, blockS wl s0 [119, 104, 105, 108, 101] y0 = s := ⟨_, rfl⟩
    obtain ⟨t2, ht2⟩ : ∃ s, blockS wl t1 [100, 111] y1 = s := ⟨_, rfl⟩
    have T1 := Lib.hid ht1
    have T2 := Lib.hid ht2
    clear ht1 ht2
    have HE : Hid (r = putS t2 [100, 111, 110, 101]) := Lib.hid (by rw [← HR.out, k6, k7, HLA0.out, HLA1.out]; show putS (blockS wl (blockS wl s0 _ _) _ _) _ = _; rw [T1.out, T2.out])
    have HZ2 : Hid (t2.1.length ≤ lim) := Lib.hid (Nat.le_trans (putS_grow _ _) (by have := HLEN.out; rw [HE.out] at this; exact this))
    have HZ1 : Hid (t1.1.length ≤ lim) := Lib.hid (Nat.le_trans (by rw [← T2.out]; exact blockS_grow HGL.out _ _ _) HZ2.out)
    have C1 := Lib.hid (HSU.out.block2 HWL.out HGL.out (Below.refl _ _) HH.out ⟨#[119, 104, 105, 108, 101]⟩ HY0.out HF0.out (by have := HZ1.out; rw [← T1.out] at this; exact this))
    rw [show blockS wl s0 (L ⟨#[119, 104, 105, 108, 101]⟩) y0 = t1 from T1.out] at C1
    go_enter Tryd.func25, Tryd.ntmps25
    go_wp2_with fail
    rw [← HUE.out]
    refine C1.out.mono ?_
    rintro e w1 ⟨rfl, hsw1, hkw1⟩
    have HBw1 := Lib.hid (hkw1 _ _ _ HB0.out (by decide) (by decide) (by decide))
    have HSw1 := Lib.hid hsw1
    have HBN := Lib.hid (HNC.out ▸ HBw1.out)
    clear hsw1 hkw1 C1
    have p0 := HBN.out.cell 0
    have p1 := HBN.out.cell 1
    have p2 := HBN.out.cell 2
    have p3 := HBN.out.cell 3
    have p4 := HBN.out.cell 4
    have p5 := HBN.out.cell 5
    have p6 := HBN.out.cell 6
    have pl := HBN.out.lt
    simp at p0 p1 p2 p3 p4 p5 p6
    have e1 := (HSw1.out.low.cell hb1).trans hc1
    have C2 := Lib.hid (HSw1.out.block2 HWL.out HGL.out (Below.refl _ _) HH.out ⟨#[100, 111]⟩ HY1.out HF1.out (by have := HZ2.out; rw [← T2.out] at this; exact this))
    rw [show blockS wl t1 (L ⟨#[100, 111]⟩) y1 = t2 from T2.out] at C2
    go_wp2_with fail
    clear p0 p1 p2 p3 p4 p5 p6 pl HBN e1
    refine C2.out.mono ?_
    rintro e w2 ⟨rfl, hsw2, hkw2⟩
    have HBw2 := Lib.hid (hkw2 _ _ _ HBw1.out (by decide) (by decide) (by decide))
    have HSw2 := Lib.hid hsw2
    have HBN := Lib.hid (HNC.out ▸ HBw2.out)
    clear hsw2 hkw2 C2
    have p0 := HBN.out.cell 0
    have p1 := HBN.out.cell 1
    have p2 := HBN.out.cell 2
    have p3 := HBN.out.cell 3
    have p4 := HBN.out.cell 4
    have p5 := HBN.out.cell 5
    have p6 := HBN.out.cell 6
    have pl := HBN.out.lt
    simp at p0 p1 p2 p3 p4 p5 p6
    have CE := Lib.hid (HSw2.out.str (Below.refl _ _) ⟨#[100, 111, 110, 101]⟩ (by have := HLEN.out; rw [HE.out] at this; simpa [putS] using this))
    go_wp2_with fail
    refine CE.out.mono ?_
    rintro e w9 ⟨rfl, hs9⟩
    have HS9 := Lib.hid hs9
    clear hs9
    go_wp2_with fail
    go_end0
    exact ⟨rfl, by rw [HE.out]; exact HS9.out⟩
  | false =>
  cases k8 : (xk == 8) with
  | true =>
    have h2 : 2 ≤ n4 := by have := HSF.out; rw [k6, k7, k8] at this; simpa [N4.out] using this
    obtain ⟨y0, bk0, ok0, ak0, ck0, hy0, hm0, hi0, hb0, hc0, hl0⟩ := LssIn.nth (N4.out ▸ HL.out) 0 0 rfl (by rw [N4.out]; omega)
    rw [N4.out] at hi0
    have HY0 := Lib.hid hl0
    have HLA0 := Lib.hid hy0
    have HF0 := Lib.hid (HFL.out _ hm0)
    have hb0' := Nat.lt_of_lt_of_le hb0 hle
    clear hl0 hy0 hm0
    obtain ⟨y1, bk1, ok1, ak1, ck1, hy1, hm1, hi1, hb1, hc1, hl1⟩ := LssIn.nth (N4.out ▸ HL.out) 1 1 rfl (by rw [N4.out]; omega)
    rw [N4.out] at hi1
    have HY1 := Lib.hid hl1
    have HLA1 := Lib.hid hy1
    have HF1 := Lib.hid (HFL.out _ hm1)
    have hb1' := Nat.lt_of_lt_of_le hb1 hle
    clear hl1 hy1 hm1
    obtain ⟨t1, ht1⟩ : ∃ s, blockS wl s0 [117, 110, 116, 105, 108] y0 = s := ⟨_, rfl⟩
    obtain ⟨t2, ht2⟩ : ∃ s, blockS wl t1 [100, 111] y1 = s := ⟨_, rfl⟩
    have T1 := Lib.hid ht1
    have T2 := Lib.hid ht2
    clear ht1 ht2
    have HE : Hid (r = putS t2 [100, 111, 110, 101]) := Lib.hid (by rw [← HR.out, k6, k7, k8, HLA0.out, HLA1.out]; show putS (blockS wl (blockS wl s0 _ _) _ _) _ = _; rw [T1.out, T2.out])
    have HZ2 : Hid (t2.1.length ≤ lim) := Lib.hid (Nat.le_trans (putS_grow _ _) (by have := HLEN.out; rw [HE.out] at this; exact this))
    have HZ1 : Hid (t1.1.length ≤ lim) := Lib.hid (Nat.le_trans (by rw [← T2.out]; exact blockS_grow HGL.out _ _ _) HZ2.out)
    have C1 := Lib.hid (HSU.out.block2 HWL.out HGL.out (Below.refl _ _) HH.out ⟨#[117, 110, 116, 105, 108]⟩ HY0.out HF0.out (by have := HZ1.out; rw [← T1.out] at this; exact this))
    rw [show blockS wl s0 (L ⟨#[117, 110, 116, 105, 108]⟩) y0 = t1 from T1.out] at C1
    go_enter Tryd.func25, Tryd.ntmps25
    go_wp2_with fail
    rw [← HUE.out]
    refine C1.out.mono ?_
    rintro e w1 ⟨rfl, hsw1, hkw1⟩
    have HBw1 := Lib.hid (hkw1 _ _ _ HB0.out (by decide) (by decide) (by decide))
    have HSw1 := Lib.hid hsw1
    have HBN := Lib.hid (HNC.out ▸ HBw1.out)
    clear hsw1 hkw1 C1
    have p0 := HBN.out.cell 0
    have p1 := HBN.out.cell 1
    have p2 := HBN.out.cell 2
    have p3 := HBN.out.cell 3
    have p4 := HBN.out.cell 4
    have p5 := HBN.out.cell 5
    have p6 := HBN.out.cell 6
    have pl := HBN.out.lt
    simp at p0 p1 p2 p3 p4 p5 p6
    have e1 := (HSw1.out.low.cell hb1).trans hc1
    have C2 := Lib.hid (HSw1.out.block2 HWL.out HGL.out (Below.refl _ _) HH.out ⟨#[100, 111]⟩ HY1.out HF1.out (by have := HZ2.out; rw [← T2.out] at this; exact this))
    rw [show blockS wl t1 (L ⟨#[100, 111]⟩) y1 = t2 from T2.out] at C2
    go_wp2_with fail
    clear p0 p1 p2 p3 p4 p5 p6 pl HBN e1
    refine C2.out.mono ?_
    rintro e w2 ⟨rfl, hsw2, hkw2⟩
    have HBw2 := Lib.hid (hkw2 _ _ _ HBw1.out (by decide) (by decide) (by decide))
    have HSw2 := Lib.hid hsw2
    have HBN := Lib.hid (HNC.out ▸ HBw2.out)
    clear hsw2 hkw2 C2
    have p0 := HBN.out.cell 0
    have p1 := HBN.out.cell 1
    have p2 := HBN.out.cell 2
    have p3 := HBN.out.cell 3
    have p4 := HBN.out.cell 4
    have p5 := HBN.out.cell 5
    have p6 := HBN.out.cell 6
    have pl := HBN.out.lt
    simp at p0 p1 p2 p3 p4 p5 p6
    have CE := Lib.hid (HSw2.out.str (Below.refl _ _) ⟨#[100, 111, 110, 101]⟩ (by have := HLEN.out; rw [HE.out] at this; simpa [putS] using this))
    go_wp2_with fail
    refine CE.out.mono ?_
    rintro e w9 ⟨rfl, hs9⟩
    have HS9 := Lib.hid hs9
    clear hs9
    go_wp2_with fail
    go_end0
    exact ⟨rfl, by rw [HE.out]; exact HS9.out⟩
  | false =>
  cases k9 : (xk == 9) with
  | true =>
    have h2 : 1 ≤ n4 := by have := HSF.out; rw [k6, k7, k8, show (xk == 10) = false by rw [eq_of_beq k9]; rfl] at this; simpa [N4.out] using this
    obtain ⟨y0, bk0, ok0, ak0, ck0, hy0, hm0, hi0, hb0, hc0, hl0⟩ := LssIn.nth (N4.out ▸ HL.out) 0 0 rfl (by rw [N4.out]; omega)
    rw [N4.out] at hi0
    have HY0 := Lib.hid hl0
    have HLA0 := Lib.hid hy0
    have HF0 := Lib.hid (HFL.out _ hm0)
    have hb0' := Nat.lt_of_lt_of_le hb0 hle
    clear hl0 hy0 hm0
    obtain ⟨t1, ht1⟩ : ∃ s, putS s0 ([102, 111, 114, 32] ++ L x.name ++ [32, 105, 110]) = s := ⟨_, rfl⟩
    obtain ⟨t2, ht2⟩ : ∃ s, wordsS wd t1 x.words true = s := ⟨_, rfl⟩
    obtain ⟨t3, ht3⟩ : ∃ s, lineS t2 = s := ⟨_, rfl⟩
    obtain ⟨t4, ht4⟩ : ∃ s, blockS wl t3 [100, 111] y0 = s := ⟨_, rfl⟩
    have T1 := Lib.hid ht1
    have T2 := Lib.hid ht2
    have T3 := Lib.hid ht3
    have T4 := Lib.hid ht4
    clear ht1 ht2 ht3 ht4
    have HE : Hid (r = putS t4 [100, 111, 110, 101]) := Lib.hid (by rw [← HR.out, k6, k7, k8, k9, HLA0.out]; show putS (blockS wl (lineS (wordsS wd (putS s0 _) x.words true)) _ _) _ = _; rw [T1.out, T2.out, T3.out, T4.out])
    have HZ4 : Hid (t4.1.length ≤ lim) := Lib.hid (Nat.le_trans (putS_grow _ _) (by have := HLEN.out; rw [HE.out] at this; exact this))
    have HZ3 : Hid (t3.1.length ≤ lim) := Lib.hid (Nat.le_trans (by rw [← T4.out]; exact blockS_grow HGL.out _ _ _) HZ4.out)
    have HZ2 : Hid (t2.1.length ≤ lim) := Lib.hid (Nat.le_trans (by rw [← T3.out]; exact lineS_grow _) HZ3.out)
    have HZ1 : Hid (∀ k, (wordsS wd t1 (x.words.take k) true).1.length ≤ lim) := Lib.hid fun k => Nat.le_trans (words_take_le HG.out _ _ _ k) (by rw [T2.out]; exact HZ2.out)
    have ka : ∀ V : World, (Op.stringOp .add (⟨#[102, 111, 114, 32]⟩ : ByteArray) x.name).run Tryd.prog V = .ok (.string ((⟨#[102, 111, 114, 32]⟩ : ByteArray) ++ x.name)) V := fun V => run_string_add_sum V _ _ (by simp; omega)
    have kb : ∀ V : World, (Op.stringOp .add ((⟨#[102, 111, 114, 32]⟩ : ByteArray) ++ x.name) (⟨#[32, 105, 110]⟩ : ByteArray)).run Tryd.prog V = .ok (.string (((⟨#[102, 111, 114, 32]⟩ : ByteArray) ++ x.name) ++ (⟨#[32, 105, 110]⟩ : ByteArray))) V := fun V => run_string_add_sum V _ _ (by simp; omega)
    have HN0 := Lib.hid (HNC.out ▸ HB0.out)
    have CS : Hid (∀ X2, Below U.heap.size U X2 → Calls Tryd.prog 24 #[.pointer (some ⟨b, 0, none⟩), .string (((⟨#[102, 111, 114, 32]⟩ : ByteArray) ++ x.name) ++ (⟨#[32, 105, 110]⟩ : ByteArray))] X2 fun e w' => e = .returned (.tuple #[.int .i64 ((((⟨#[102, 111, 114, 32]⟩ : ByteArray) ++ x.name) ++ (⟨#[32, 105, 110]⟩ : ByteArray)).size : Nat), .nilIface]) ∧ Shown W B b dv t1 w' ∧ Keeps X2 w') := Lib.hid fun X2 hX2 => by
      have h1 := HSU.out.str2 hX2 (((⟨#[102, 111, 114, 32]⟩ : ByteArray) ++ x.name) ++ (⟨#[32, 105, 110]⟩ : ByteArray)) (by
        have h2 := HZ1.out 0
        rw [← T1.out] at h2
        simp [wordsS, putS, L_size] at h2 ⊢
        omega)
      have e : L (((⟨#[102, 111, 114, 32]⟩ : ByteArray) ++ x.name) ++ (⟨#[32, 105, 110]⟩ : ByteArray)) = [102, 111, 114, 32] ++ L x.name ++ [32, 105, 110] := by simp [L_append]
      rw [e, T1.out] at h1
      exact h1
    have hlowU := HSU.out.low
    go_enter Tryd.func25, Tryd.ntmps25
    go_wp2_with fail
    rw [← HUE.out]
    have p0 := HN0.out.cell 0
    have p1 := HN0.out.cell 1
    have p2 := HN0.out.cell 2
    have p3 := HN0.out.cell 3
    have p4 := HN0.out.cell 4
    have p5 := HN0.out.cell 5
    have p6 := HN0.out.cell 6
    have pl := HN0.out.lt
    simp at p0 p1 p2 p3 p4 p5 p6
    go_still_tail 7, (by kernel_rfl)
    go_wp2_with fail
    refine (CS.out _ (by repeat' (first | (with_reducible assumption) | (with_reducible exact Below.refl _ _) | (with_reducible refine below_drewN ?_ _) | (with_reducible refine below_bytes ?_ ?_ _) | (with_reducible refine Below.alloc ?_ ?_ _) | (with_reducible refine Below.drew ?_) | (with_reducible refine Below.setCell ?_ ?_ _) | go_size))).mono ?_
    rintro e w1 ⟨rfl, hs1, hk1⟩
    have HBw1 := Lib.hid ((Keeps.trans (Keeps.of_below (by repeat' (first | (with_reducible assumption) | (with_reducible exact Below.refl _ _) | (with_reducible refine below_drewN ?_ _) | (with_reducible refine below_bytes ?_ ?_ _) | (with_reducible refine Below.alloc ?_ ?_ _) | (with_reducible refine Below.drew ?_) | (with_reducible refine Below.setCell ?_ ?_ _) | go_size))) hk1) _ _ _ HB0.out (by decide) (by decide) (by decide))
    have HS1 := Lib.hid hs1
    clear hs1 hk1 p0 p1 p2 p3 p4 p5 p6 pl HN0 CS
    have HBN := Lib.hid (HNC.out ▸ HBw1.out)
    have p0 := HBN.out.cell 0
    have p1 := HBN.out.cell 1
    have p2 := HBN.out.cell 2
    have p3 := HBN.out.cell 3
    have p4 := HBN.out.cell 4
    have p5 := HBN.out.cell 5
    have p6 := HBN.out.cell 6
    have pl := HBN.out.lt
    simp at p0 p1 p2 p3 p4 p5 p6
    go_wp2_with fail
    clear p0 p1 p2 p3 p4 p5 p6 pl HBN
    go_loopw [80] (fun i U => ∃ j : Nat, j ≤ n2 ∧ i = .int .i64 j ∧ Shown W B b dv (wordsS wd t1 (x.words.take j) true) U ∧ Blk U W.heap.size 37 nc) (fun i _ => n2 - (intOf i).toNat)
    case atStart => exact ⟨0, Nat.zero_le _, rfl, HS1.out, HBw1.out⟩
    case round =>
      obtain ⟨j, hj, rfl, hsh, hbk⟩ := hrel
      obtain ⟨sj, hsj⟩ : ∃ s, wordsS wd t1 (x.words.take j) true = s := ⟨_, rfl⟩
      rw [hsj] at hsh
      have HSJ := Lib.hid hsj
      have HSH := Lib.hid hsh
      have HBK := Lib.hid hbk
      have hlow := hsh.low
      have hleW := hsh.le
      clear hsh hbk hsj HBw1 HS1
      have HBN := Lib.hid (HNC.out ▸ HBK.out)
      have p0 := HBN.out.cell 0
      have p1 := HBN.out.cell 1
      have p2 := HBN.out.cell 2
      have p3 := HBN.out.cell 3
      have p4 := HBN.out.cell 4
      have p5 := HBN.out.cell 5
      have p6 := HBN.out.cell 6
      have pl := HBN.out.lt
      simp at p0 p1 p2 p3 p4 p5 p6
      by_cases hlt : j < n2
      · obtain ⟨y, hy⟩ : ∃ y, x.words[j]? = .some y := ⟨_, List.getElem?_eq_getElem (by rw [N2.out]; exact hlt)⟩
        obtain ⟨b1, o, c, hi, hbB, hce, ⟨yv, rfl, hyp⟩, _⟩ := HWS.out.at 29 26 Tryd.underlying29 (by kernel_rfl) hy
        obtain ⟨a6, c6, rfl, _⟩ := hyp.shape
        have HSX : Hid (wordsS wd t1 (x.words.take (j + 1)) true = wd (putS sj [32]) y) := Lib.hid (by
          rw [take_snoc' hy, words_snoc, HSJ.out]; rfl)
        have HLX := Lib.hid (HZ1.out (j + 1))
        rw [HSX.out] at HLX
        have HFY : Hid (fw y = true) := Lib.hid (HFW.out y (List.mem_of_getElem? hy))
        have HYP := Lib.hid hyp
        have e0 := (hlow.cell hbB).trans (hce 0 _ rfl)
        have hbB' := Nat.lt_of_lt_of_le hbB hleW
        rw [Nat.add_zero] at e0
        have CB := Lib.hid (HSH.out.byte2 (Below.refl _ _) 32 (by have := Nat.le_trans (HG.out (putS sj [32]) y) HLX.out; simpa [putS] using this))
        have HE0 : Hid (∀ V, Below B W V → V.cell? ⟨b1, o, none⟩ = some (.slice a6 y.length c6)) := Lib.hid fun V hV => (hV.cell hbB).trans (hce 0 _ rfl)
        clear hy hce hyp
        go_wp2_with fail
        refine CB.out.mono ?_
        rintro e w2 ⟨rfl, hs2, hk2⟩
        have HB2 := Lib.hid (hk2 _ _ _ HBK.out (by decide) (by decide) (by decide))
        have e0 := HE0.out w2 hs2.low
        have CW := Lib.hid (hs2.word2 HWD.out (Below.refl _ _) HH.out HYP.out HFY.out HLX.out)
        clear hs2 hk2 p0 p1 p2 p3 p4 p5 p6 pl HBN
        have HBN := Lib.hid (HNC.out ▸ HB2.out)
        have p0 := HBN.out.cell 0
        have p1 := HBN.out.cell 1
        have p2 := HBN.out.cell 2
        have p3 := HBN.out.cell 3
        have p4 := HBN.out.cell 4
        have p5 := HBN.out.cell 5
        have p6 := HBN.out.cell 6
        have pl := HBN.out.lt
        simp at p0 p1 p2 p3 p4 p5 p6
        go_wp2_with fail
        refine CW.out.mono ?_
        rintro e w3 ⟨rfl, hs3, hk3⟩
        have HB3 := Lib.hid (hk3 _ _ _ HB2.out (by decide) (by decide) (by decide))
        have HS3 := Lib.hid hs3
        clear hs3 hk3
        go_wp2_with fail
        go_roundw
        case rel => exact ⟨j + 1, by omega, by go_num, by rw [HSX.out]; exact HS3.out, HB3.out⟩
        case measure => simp [intOf]; omega
      · have HTK : Hid (x.words.take j = x.words) := Lib.hid (List.take_of_length_le (by rw [N2.out]; omega))
        have HSE : Hid (sj = t2) := Lib.hid (by rw [← HSJ.out, HTK.out]; exact T2.out)
        rw [HSE.out] at HSH
        have CL := Lib.hid (HSH.out.line2 (Below.refl _ _) (by have := HZ3.out; rw [← T3.out] at this; exact this))
        rw [T3.out] at CL
        go_wp2_with fail
        clear p0 p1 p2 p3 p4 p5 p6 pl HBN
        refine CL.out.mono ?_
        rintro e w4 ⟨rfl, hsw4, hkw4⟩
        have HBw4 := Lib.hid (hkw4 _ _ _ HBK.out (by decide) (by decide) (by decide))
        have HSw4 := Lib.hid hsw4
        have HBN := Lib.hid (HNC.out ▸ HBw4.out)
        clear hsw4 hkw4 CL
        have p0 := HBN.out.cell 0
        have p1 := HBN.out.cell 1
        have p2 := HBN.out.cell 2
        have p3 := HBN.out.cell 3
        have p4 := HBN.out.cell 4
        have p5 := HBN.out.cell 5
        have p6 := HBN.out.cell 6
        have pl := HBN.out.lt
        simp at p0 p1 p2 p3 p4 p5 p6
        have e0 := (HSw4.out.low.cell hb0).trans hc0
        have C2 := Lib.hid (HSw4.out.block2 HWL.out HGL.out (Below.refl _ _) HH.out ⟨#[100, 111]⟩ HY0.out HF0.out (by have := HZ4.out; rw [← T4.out] at this; exact this))
        rw [show blockS wl t3 (L ⟨#[100, 111]⟩) y0 = t4 from T4.out] at C2
        go_wp2_with fail
        clear p0 p1 p2 p3 p4 p5 p6 pl HBN e0
        refine C2.out.mono ?_
        rintro e w5 ⟨rfl, hsw5, hkw5⟩
        have HBw5 := Lib.hid (hkw5 _ _ _ HBw4.out (by decide) (by decide) (by decide))
        have HSw5 := Lib.hid hsw5
        have HBN := Lib.hid (HNC.out ▸ HBw5.out)
        clear hsw5 hkw5 C2
        have p0 := HBN.out.cell 0
        have p1 := HBN.out.cell 1
        have p2 := HBN.out.cell 2
        have p3 := HBN.out.cell 3
        have p4 := HBN.out.cell 4
        have p5 := HBN.out.cell 5
        have p6 := HBN.out.cell 6
        have pl := HBN.out.lt
        simp at p0 p1 p2 p3 p4 p5 p6
        have CE := Lib.hid (HSw5.out.str (Below.refl _ _) ⟨#[100, 111, 110, 101]⟩ (by have := HLEN.out; rw [HE.out] at this; simpa [putS] using this))
        go_wp2_with fail
        refine CE.out.mono ?_
        rintro e w9 ⟨rfl, hs9⟩
        have HS9 := Lib.hid hs9
        clear hs9
        go_wp2_with fail
        go_end0
        exact ⟨rfl, by rw [HE.out]; exact HS9.out⟩
  | false =>
  cases k10 : (xk == 10) with
  | true =>
    have h2 : 0 < x.words.length := by have := HSF.out; rw [k6, k7, k8, k10] at this; cases hw : x.words with | nil => rw [hw] at this; simp at this | cons => simp
    have HE : Hid (r = caseS wd wl s0 x) := Lib.hid (by rw [← HR.out, k6, k7, k8, k9, k10]; rfl)
    have CA : Hid (Calls Tryd.prog 46 #[.pointer (some ⟨b, 0, none⟩), .agg #[.int .i64 xk, .string x.name, .slice a1 n1 c1, .slice a2 n2 c2, .slice a3 n3 c3, .slice a4 n4 c4, .slice a5 n5 c5]] U fun e w' => e = .returned (.tuple #[]) ∧ Shown W B b dv r w') := Lib.hid (by
      obtain ⟨dv1, ds1, g1, g2, g3⟩ := shown_st HSU.out
      have hlow := HSU.out.low
      have g4 := warms_any HWD.out HG.out HWL.out HGL.out x _ g1 (HH.out.below hlow) (HC.out.later2 hlow) h2 HFW0.out HFA.out (by rw [g2, ← HE.out]; exact HLEN.out)
      rw [g2, ← HE.out] at g4
      exact g4.mono fun e w' ⟨q1, q2⟩ => ⟨q1, q2.after g3⟩)
    clear h2
    go_enter Tryd.func25, Tryd.ntmps25
    go_wp2_with fail
    rw [← HUE.out]
    refine CA.out.mono ?_
    rintro e w2 ⟨rfl, hs2⟩
    have CE := Lib.hid (hs2.str (Below.refl _ _) ⟨#[]⟩ (by have := HLEN.out; simpa using this))
    clear hs2
    go_wp2_with fail
    refine CE.out.mono ?_
    rintro e w9 ⟨rfl, hs9⟩
    have HS9 := Lib.hid hs9
    clear hs9
    go_wp2_with fail
    go_end0
    exact ⟨rfl, by have := HS9.out; simpa [putS] using this⟩
  | false =>
  have h2 : 1 ≤ n4 := by have := HSF.out; rw [k6, k7, k8, k10] at this; simpa [N4.out] using this
  obtain ⟨y0, bk0, ok0, ak0, ck0, hy0, hm0, hi0, hb0, hc0, hl0⟩ := LssIn.nth (N4.out ▸ HL.out) 0 0 rfl (by rw [N4.out]; omega)
  rw [N4.out] at hi0
  have HY0 := Lib.hid hl0
  have HLA0 := Lib.hid hy0
  have HF0 := Lib.hid (HFL.out _ hm0)
  have hb0' := Nat.lt_of_lt_of_le hb0 hle
  clear hl0 hy0 hm0
  cases k12 : (xk == 12) with
  | true =>
    obtain ⟨t1, ht1⟩ : ∃ s, blockS wl s0 [40] y0 = s := ⟨_, rfl⟩
    have T1 := Lib.hid ht1
    clear ht1
    have HE : Hid (r = putS t1 [41]) := Lib.hid (by rw [← HR.out, k6, k7, k8, k9, k10, k12, HLA0.out]; show putS (blockS wl s0 _ _) _ = _; rw [T1.out])
    have HZ1 : Hid (t1.1.length ≤ lim) := Lib.hid (Nat.le_trans (putS_grow _ _) (by have := HLEN.out; rw [HE.out] at this; exact this))
    have C1 := Lib.hid (HSU.out.block2 HWL.out HGL.out (Below.refl _ _) HH.out ⟨#[40]⟩ HY0.out HF0.out (by have := HZ1.out; rw [← T1.out] at this; exact this))
    rw [show blockS wl s0 (L ⟨#[40]⟩) y0 = t1 from T1.out] at C1
    go_enter Tryd.func25, Tryd.ntmps25
    go_wp2_with fail
    rw [← HUE.out]
    refine C1.out.mono ?_
    rintro e w1 ⟨rfl, hsw1, hkw1⟩
    have HBw1 := Lib.hid (hkw1 _ _ _ HB0.out (by decide) (by decide) (by decide))
    have HSw1 := Lib.hid hsw1
    have HBN := Lib.hid (HNC.out ▸ HBw1.out)
    clear hsw1 hkw1 C1
    have p0 := HBN.out.cell 0
    have p1 := HBN.out.cell 1
    have p2 := HBN.out.cell 2
    have p3 := HBN.out.cell 3
    have p4 := HBN.out.cell 4
    have p5 := HBN.out.cell 5
    have p6 := HBN.out.cell 6
    have pl := HBN.out.lt
    simp at p0 p1 p2 p3 p4 p5 p6
    have CE := Lib.hid (HSw1.out.str (Below.refl _ _) ⟨#[41]⟩ (by have := HLEN.out; rw [HE.out] at this; simpa [putS] using this))
    go_wp2_with fail
    refine CE.out.mono ?_
    rintro e w9 ⟨rfl, hs9⟩
    have HS9 := Lib.hid hs9
    clear hs9
    go_wp2_with fail
    go_end0
    exact ⟨rfl, by rw [HE.out]; exact HS9.out⟩
  | false =>
    obtain ⟨t1, ht1⟩ : ∃ s, blockS wl s0 [123] y0 = s := ⟨_, rfl⟩
    have T1 := Lib.hid ht1
    clear ht1
    have HE : Hid (r = putS t1 [125]) := Lib.hid (by rw [← HR.out, k6, k7, k8, k9, k10, k12, HLA0.out]; show putS (blockS wl s0 _ _) _ = _; rw [T1.out])
    have HZ1 : Hid (t1.1.length ≤ lim) := Lib.hid (Nat.le_trans (putS_grow _ _) (by have := HLEN.out; rw [HE.out] at this; exact this))
    have C1 := Lib.hid (HSU.out.block2 HWL.out HGL.out (Below.refl _ _) HH.out ⟨#[123]⟩ HY0.out HF0.out (by have := HZ1.out; rw [← T1.out] at this; exact this))
    rw [show blockS wl s0 (L ⟨#[123]⟩) y0 = t1 from T1.out] at C1
    go_enter Tryd.func25, Tryd.ntmps25
    go_wp2_with fail
    rw [← HUE.out]
    refine C1.out.mono ?_
    rintro e w1 ⟨rfl, hsw1, hkw1⟩
    have HBw1 := Lib.hid (hkw1 _ _ _ HB0.out (by decide) (by decide) (by decide))
    have HSw1 := Lib.hid hsw1
    have HBN := Lib.hid (HNC.out ▸ HBw1.out)
    clear hsw1 hkw1 C1
    have p0 := HBN.out.cell 0
    have p1 := HBN.out.cell 1
    have p2 := HBN.out.cell 2
    have p3 := HBN.out.cell 3
    have p4 := HBN.out.cell 4
    have p5 := HBN.out.cell 5
    have p6 := HBN.out.cell 6
    have pl := HBN.out.lt
    simp at p0 p1 p2 p3 p4 p5 p6
    have CE := Lib.hid (HSw1.out.str (Below.refl _ _) ⟨#[125]⟩ (by have := HLEN.out; rw [HE.out] at this; simpa [putS] using this))
    go_wp2_with fail
    refine CE.out.mono ?_
    rintro e w9 ⟨rfl, hs9⟩
    have HS9 := Lib.hid hs9
    clear hs9
    go_wp2_with fail
    go_end0
    exact ⟨rfl, by rw [HE.out]; exact HS9.out⟩
end Go.Proofs.YtnackmnoldkihaaDoor
/-
  The walk of the writer's node.
-/
namespace Go.Proofs.YtnackmnoldkihaaDoor
open Go.RowKit

set_option maxHeartbeats 4000000 in
set_option maxRecDepth 100000 in
theorem wnode_any {d : Nat} {wd : St → List Pt → St} {fw : List Pt → Bool} (hwd : WordW d wd fw) (hg : Grow2 wd) {wl : St → List Nd → St} {fl : List Nd → Bool} (hwl : ListW d wl fl) (hgl : Grow2 wl) {nd : St → Nd → St} {fn : Nd → Bool} (hnd : ∀ d', d = d' + 1 → NodeW d' nd fn) (hgn : Grow2 nd) : NodeW d (nodeS wd wl nd) (nodeF fw fl fn) := by
  intro W B b dv out ds x c hH h hc hf hlen
  rw [nodeF, Bool.and_eq_true, Bool.and_eq_true, Bool.and_eq_true, Bool.and_eq_true, Bool.and_eq_true, Bool.and_eq_true] at hf
  obtain ⟨hsh, hfas, hfw, hfr, hfl, hfn, hfa⟩ := hf
  have HC := Lib.hid hc
  obtain ⟨a1, c1, a2, c2, a3, c3, a4, c4, a5, c5, rfl, hxz, ⟨hn1, hn2, hn3, hn4, hn5⟩, _, _, hRd, hLs, _⟩ := hc.open
  obtain ⟨n1, hl1⟩ : ∃ n, x.assigns.length = n := ⟨_, rfl⟩
  obtain ⟨n2, hl2⟩ : ∃ n, x.words.length = n := ⟨_, rfl⟩
  obtain ⟨n3, hl3⟩ : ∃ n, x.redirs.length = n := ⟨_, rfl⟩
  obtain ⟨n4, hl4⟩ : ∃ n, x.lists.length = n := ⟨_, rfl⟩
  obtain ⟨n5, hl5⟩ : ∃ n, x.arms.length = n := ⟨_, rfl⟩
  rw [hl3] at hn3 hRd
  rw [hl4] at hn4 hLs
  rw [hl1, hl2, hl3, hl4, hl5] at HC ⊢
  have HL := Lib.hid hLs
  have HRS := Lib.hid hRd
  have HH := Lib.hid hH
  have HWD := Lib.hid hwd
  have HWL := Lib.hid hwl
  have HG := Lib.hid hg
  have HGL := Lib.hid hgl
  have HW := Lib.hid h
  have HFW := Lib.hid (List.all_eq_true.1 hfw)
  have HFW0 := Lib.hid hfw
  have HFL := Lib.hid (List.all_eq_true.1 hfl)
  have HFA := Lib.hid hfa
  have N4 := Lib.hid hl4
  obtain ⟨s0, hs0⟩ : ∃ s, stOf out ds = s := ⟨_, rfl⟩
  rw [hs0] at hlen ⊢
  have HS0 := Lib.hid hs0
  obtain ⟨r, hr⟩ : ∃ r, nodeS wd wl nd s0 x = r := ⟨_, rfl⟩
  rw [hr] at hlen ⊢
  have HLEN := Lib.hid hlen
  obtain ⟨xk, hxk⟩ : ∃ k, x.kind = k := ⟨_, rfl⟩
  rw [nodeS] at hr
  rw [hxk] at hr HC ⊢
  have HR := Lib.hid hr
  have HSF := Lib.hid hsh
  have HFN := Lib.hid hfn
  have HND := Lib.hid hnd
  have HGN := Lib.hid hgn
  have HFR := Lib.hid hfr
  have HFA0 := Lib.hid hfas
  have HFL0 := Lib.hid hfl
  have HXK := Lib.hid hxk
  have hle := h.le
  clear hl1 hl2 hl3 hl4 hl5 hRd hLs hH hwd hwl hg hgl h hfa hfw hfl hlen hc hs0 hr hxk hsh hfn hnd hgn hfr hfas
  obtain ⟨nc, hnc⟩ : ∃ cs : Array Value, cs = #[.int .i64 xk, .string x.name, .slice a1 n1 c1, .slice a2 n2 c2, .slice a3 n3 c3, .slice a4 n4 c4, .slice a5 n5 c5] := ⟨_, rfl⟩
  have HNC := Lib.hid hnc
  obtain ⟨U, hU⟩ : ∃ U, U = W.alloc (.cells nc 37) := ⟨_, rfl⟩
  have HB0 : Hid (Blk U W.heap.size 37 nc) := Lib.hid (by rw [hU]; exact Blk.at rfl)
  have HBL : Hid (Below W.heap.size W U) := Lib.hid (by rw [hU]; exact (Below.refl _ _).alloc (Nat.le_refl _) _)
  rw [hnc] at hU
  have HUE := Lib.hid hU
  clear hU hnc
  have HSU : Hid (Shown W B b dv s0 U) := Lib.hid (by have := (Shown.start HW.out).later HBL.out; rwa [HS0.out] at this)
  have CR : Hid (∀ (t : St) (X : World), Shown W B b dv t X → (redirsS wd t x.redirs true).1.length ≤ lim → Calls Tryd.prog 26 #[.pointer (some ⟨b, 0, none⟩), .slice a3 n3 c3, .bool true] X fun e w' => e = .returned (.tuple #[]) ∧ Shown W B b dv (redirsS wd t x.redirs true) w') := Lib.hid fun t X ht hlen => by
    obtain ⟨dv1, ds1, h1, h2, h3⟩ := shown_st ht
    have hlow1 := ht.low
    have h4 := wredirs_any HWD.out HG.out h1 (HH.out.below hlow1) (HRS.out.imp (fun xs hs => hs.below hlow1) fun _ _ _ h => h.keep fun _ _ _ _ hs => hs.below hlow1) HFR.out true (by rw [h2]; exact hlen)
    rw [h2] at h4
    exact h4.mono fun e w' ⟨g1, g2⟩ => ⟨g1, g2.after h3⟩
  have hlowU := HSU.out.low
  cases k1 : (xk == 1) with
  | true =>
    have HE : Hid (r = simpleS wd s0 x) := Lib.hid (by rw [← HR.out, k1]; rfl)
    have CA : Hid (Calls Tryd.prog 22 #[.pointer (some ⟨b, 0, none⟩), .agg #[.int .i64 xk, .string x.name, .slice a1 n1 c1, .slice a2 n2 c2, .slice a3 n3 c3, .slice a4 n4 c4, .slice a5 n5 c5]] U fun e w' => e = .returned (.tuple #[]) ∧ Shown W B b dv r w') := Lib.hid (by
      obtain ⟨dv1, ds1, g1, g2, g3⟩ := shown_st HSU.out
      have g4 := wsimple_any HWD.out HG.out x _ g1 (HH.out.below hlowU) (HC.out.later2 hlowU) HFA0.out HFW0.out HFR.out (by rw [g2, ← HE.out]; exact HLEN.out)
      rw [g2, ← HE.out] at g4
      exact g4.mono fun e w' ⟨q1, q2⟩ => ⟨q1, q2.after g3⟩)
    go_enter Tryd.func14, Tryd.ntmps14
    go_wp2_with fail
    rw [← HUE.out]
    refine CA.out.mono ?_
    rintro e w9 ⟨rfl, hs9⟩
    have HS9 := Lib.hid hs9
    clear hs9
    go_wp2_with fail
    refine bodyPost_ret (results_none rfl _ _ _) rfl ?_
    exact ⟨rfl, HS9.out⟩
  | false =>
  have HE : Hid (r = redirsS wd (bodyS wd wl nd s0 x) x.redirs true) := Lib.hid (by rw [← HR.out, k1]; rfl)
  have HZ : Hid ((redirsS wd (bodyS wd wl nd s0 x) x.redirs true).1.length ≤ lim) := Lib.hid (by rw [← HE.out]; exact HLEN.out)
  have HZB : Hid ((bodyS wd wl nd s0 x).1.length ≤ lim) := Lib.hid (Nat.le_trans (redirsS_grow HG.out _ _ _) HZ.out)
  have hbx := HXK.out
  rw [bodyS, hbx] at HE HZ HZB
  clear hbx
  cases k2 : (xk == 2) with
  | true =>
    have h2 : x.lists.all (fun l => !l.isEmpty) = true := by have := HSF.out; rw [shapeF, HXK.out, k1, k2] at this; exact this
    have CJ := Lib.hid (HSU.out.twice (Below.refl _ _) fun dv1 h1 => wjoin_any HND.out HGN.out h1 (Below.refl _ _) (HH.out.below hlowU) ⟨#[32, 124, 32]⟩ x.lists _ (LssIn.keep (N4.out ▸ HL.out) fun _ _ _ _ hs => hs.below hlowU) HFN.out h2 (by have := HZB.out; rw [k2] at this; exact this))
    rw [N4.out] at CJ
    rw [k2] at HE HZ
    clear h2
    go_enter Tryd.func14, Tryd.ntmps14
    go_wp2_with fail
    rw [← HUE.out]
    refine CJ.out.mono ?_
    rintro e w7 ⟨rfl, hs7, hk7⟩
    have HB7 := Lib.hid (hk7 _ _ _ HB0.out (by decide) (by decide) (by decide))
    have HBN := Lib.hid (HNC.out ▸ HB7.out)
    have CQ := Lib.hid (CR.out _ _ hs7 HZ.out)
    clear hs7 hk7 CJ
    have p0 := HBN.out.cell 0
    have p1 := HBN.out.cell 1
    have p2 := HBN.out.cell 2
    have p3 := HBN.out.cell 3
    have p4 := HBN.out.cell 4
    have p5 := HBN.out.cell 5
    have p6 := HBN.out.cell 6
    have pl := HBN.out.lt
    simp at p0 p1 p2 p3 p4 p5 p6
    go_wp2_with fail
    refine CQ.out.mono ?_
    rintro e w9 ⟨rfl, hs9⟩
    have HS9 := Lib.hid hs9
    clear hs9
    go_wp2_with fail
    go_end0
    exact ⟨rfl, by rw [HE.out]; exact HS9.out⟩
  | false =>
  cases k3 : (xk == 3) with
  | true =>
    have h2 : x.lists.all (fun l => !l.isEmpty) = true := by have := HSF.out; rw [shapeF, HXK.out, k1, k2, k3] at this; exact this
    have CJ := Lib.hid (HSU.out.twice (Below.refl _ _) fun dv1 h1 => wjoin_any HND.out HGN.out h1 (Below.refl _ _) (HH.out.below hlowU) ⟨#[32, 38, 38, 32]⟩ x.lists _ (LssIn.keep (N4.out ▸ HL.out) fun _ _ _ _ hs => hs.below hlowU) HFN.out h2 (by have := HZB.out; rw [k2, k3] at this; exact this))
    rw [N4.out] at CJ
    rw [k2, k3] at HE HZ
    clear h2
    go_enter Tryd.func14, Tryd.ntmps14
    go_wp2_with fail
    rw [← HUE.out]
    refine CJ.out.mono ?_
    rintro e w7 ⟨rfl, hs7, hk7⟩
    have HB7 := Lib.hid (hk7 _ _ _ HB0.out (by decide) (by decide) (by decide))
    have HBN := Lib.hid (HNC.out ▸ HB7.out)
    have CQ := Lib.hid (CR.out _ _ hs7 HZ.out)
    clear hs7 hk7 CJ
    have p0 := HBN.out.cell 0
    have p1 := HBN.out.cell 1
    have p2 := HBN.out.cell 2
    have p3 := HBN.out.cell 3
    have p4 := HBN.out.cell 4
    have p5 := HBN.out.cell 5
    have p6 := HBN.out.cell 6
    have pl := HBN.out.lt
    simp at p0 p1 p2 p3 p4 p5 p6
    go_wp2_with fail
    refine CQ.out.mono ?_
    rintro e w9 ⟨rfl, hs9⟩
    have HS9 := Lib.hid hs9
    clear hs9
    go_wp2_with fail
    go_end0
    exact ⟨rfl, by rw [HE.out]; exact HS9.out⟩
  | false =>
  cases k4 : (xk == 4) with
  | true =>
    have h2 : x.lists.all (fun l => !l.isEmpty) = true := by have := HSF.out; rw [shapeF, HXK.out, k1, k2, k3, k4] at this; exact this
    have CJ := Lib.hid (HSU.out.twice (Below.refl _ _) fun dv1 h1 => wjoin_any HND.out HGN.out h1 (Below.refl _ _) (HH.out.below hlowU) ⟨#[32, 124, 124, 32]⟩ x.lists _ (LssIn.keep (N4.out ▸ HL.out) fun _ _ _ _ hs => hs.below hlowU) HFN.out h2 (by have := HZB.out; rw [k2, k3, k4] at this; exact this))
    rw [N4.out] at CJ
    rw [k2, k3, k4] at HE HZ
    clear h2
    go_enter Tryd.func14, Tryd.ntmps14
    go_wp2_with fail
    rw [← HUE.out]
    refine CJ.out.mono ?_
    rintro e w7 ⟨rfl, hs7, hk7⟩
    have HB7 := Lib.hid (hk7 _ _ _ HB0.out (by decide) (by decide) (by decide))
    have HBN := Lib.hid (HNC.out ▸ HB7.out)
    have CQ := Lib.hid (CR.out _ _ hs7 HZ.out)
    clear hs7 hk7 CJ
    have p0 := HBN.out.cell 0
    have p1 := HBN.out.cell 1
    have p2 := HBN.out.cell 2
    have p3 := HBN.out.cell 3
    have p4 := HBN.out.cell 4
    have p5 := HBN.out.cell 5
    have p6 := HBN.out.cell 6
    have pl := HBN.out.lt
    simp at p0 p1 p2 p3 p4 p5 p6
    go_wp2_with fail
    refine CQ.out.mono ?_
    rintro e w9 ⟨rfl, hs9⟩
    have HS9 := Lib.hid hs9
    clear hs9
    go_wp2_with fail
    go_end0
    exact ⟨rfl, by rw [HE.out]; exact HS9.out⟩
  | false =>
  cases k5 : (xk == 5) with
  | true =>
    have hl0 : ∃ y, listAt x 0 = y ∧ y ∈ x.lists ∧ 0 < y.length ∧ 0 < x.lists.length := by
      have h3 := HSF.out
      rw [shapeF, HXK.out, show (xk == 1) = false from k1, k2, k3, k4, k5] at h3
      rw [listAt]
      cases hq : x.lists with
      | nil => rw [hq] at h3; simp at h3
      | cons y l =>
        rw [hq] at h3
        refine ⟨y, rfl, by simp, ?_, by simp⟩
        cases y with
        | nil => simp at h3
        | cons => simp
    obtain ⟨yq, hyq, _, hyl, hn40⟩ := hl0
    obtain ⟨y0, bk0, ok0, ak0, ck0, hy0, hm0, hi0, hb0, hc0, hl0⟩ := LssIn.nth (N4.out ▸ HL.out) 0 0 rfl hn40
    obtain rfl : yq = y0 := hyq.symm.trans hy0
    obtain ⟨xx, rr, d', bk2, ok2, c2', hyx, hdd, hi2, hb2, hce2, hC⟩ := hl0.head hyl
    rw [N4.out] at hi0
    have HND2 := Lib.hid (HND.out d' hdd)
    have HFX : Hid (fn xx = true) := Lib.hid (by
      have h1 := List.all_eq_true.1 HFN.out yq hm0
      rw [hyx] at h1
      exact List.all_eq_true.1 h1 xx (by simp))
    have HONE : Hid (∀ t : St, oneS nd t (listAt x 0) = nd t xx) := Lib.hid fun t => by rw [hyq, hyx]; rfl
    have HCX := Lib.hid hC
    obtain ⟨u1, v1, u2, v2, u3, v3, u4, v4, u5, v5, rfl, _⟩ := hC.open
    obtain ⟨ny, hny⟩ : ∃ n, yq.length = n := ⟨_, rfl⟩
    rw [hny] at hc0 hi2
    have HCE : Hid (∀ V, Below B W V → V.cell? ⟨bk0, ok0, none⟩ = some (.slice ak0 ny ck0) ∧ V.cell? ⟨bk2, ok2, none⟩ = some (.int .i64 xx.kind) ∧ V.cell? ⟨bk2, ok2 + 1, none⟩ = some (.string xx.name) ∧ V.cell? ⟨bk2, ok2 + 2, none⟩ = some (.slice u1 xx.assigns.length v1) ∧ V.cell? ⟨bk2, ok2 + 3, none⟩ = some (.slice u2 xx.words.length v2) ∧ V.cell? ⟨bk2, ok2 + 4, none⟩ = some (.slice u3 xx.redirs.length v3) ∧ V.cell? ⟨bk2, ok2 + 5, none⟩ = some (.slice u4 xx.lists.length v4) ∧ V.cell? ⟨bk2, ok2 + 6, none⟩ = some (.slice u5 xx.arms.length v5)) := Lib.hid fun V hV =>
      ⟨(hV.cell hb0).trans hc0, (hV.cell hb2).trans (hce2 0 _ rfl), (hV.cell hb2).trans (hce2 1 _ rfl), (hV.cell hb2).trans (hce2 2 _ rfl), (hV.cell hb2).trans (hce2 3 _ rfl), (hV.cell hb2).trans (hce2 4 _ rfl), (hV.cell hb2).trans (hce2 5 _ rfl), (hV.cell hb2).trans (hce2 6 _ rfl)⟩
    have hty : 0 < ny := by rw [← hny]; exact hyl
    clear hyq hyl hn40 hy0 hm0 hc0 hyx hdd hce2 hC hny
    rw [k2, k3, k4, k5] at HE HZ HZB
    rw [show (bif false then joinS nd [32, 124, 32] s0 x.lists false else bif false then joinS nd [32, 38, 38, 32] s0 x.lists false else bif false then joinS nd [32, 124, 124, 32] s0 x.lists false else bif true then oneS nd (putS s0 [33, 32]) (listAt x 0) else bif xk == 11 then oneS nd (putS s0 (L x.name ++ [40, 41, 32])) (listAt x 0) else compS wd wl s0 x) = nd (putS s0 [33, 32]) xx from HONE.out _] at HE HZ HZB
    have C1 := Lib.hid (HSU.out.str2 (Below.refl _ _) ⟨#[33, 32]⟩ (by have := Nat.le_trans (HGN.out (putS s0 [33, 32]) xx) HZB.out; simpa [putS] using this))
    go_enter Tryd.func14, Tryd.ntmps14
    go_wp2_with fail
    rw [← HUE.out]
    refine C1.out.mono ?_
    rintro e w1 ⟨rfl, hs1, hk1⟩
    have HBw1 := Lib.hid (hk1 _ _ _ HB0.out (by decide) (by decide) (by decide))
    have HSw1 := Lib.hid hs1
    clear hs1 hk1 C1
    obtain ⟨e0, g0, g1, g2, g3, g4, g5, g6⟩ := HCE.out _ HSw1.out.low
    have CN := Lib.hid (HSw1.out.twice (Below.refl _ _) fun dv1 h1 => h1.node HND2.out (Below.refl _ _) (HH.out.below HSw1.out.low) (HCX.out.later2 HSw1.out.low) HFX.out HZB.out)
    have HBN := Lib.hid (HNC.out ▸ HBw1.out)
    have p0 := HBN.out.cell 0
    have p1 := HBN.out.cell 1
    have p2 := HBN.out.cell 2
    have p3 := HBN.out.cell 3
    have p4 := HBN.out.cell 4
    have p5 := HBN.out.cell 5
    have p6 := HBN.out.cell 6
    have pl := HBN.out.lt
    simp at p0 p1 p2 p3 p4 p5 p6
    go_wp2_with fail
    clear p0 p1 p2 p3 p4 p5 p6 pl HBN e0 g0 g1 g2 g3 g4 g5 g6
    refine CN.out.mono ?_
    rintro e w7 ⟨rfl, hs7, hk7⟩
    have HB7 := Lib.hid (hk7 _ _ _ HBw1.out (by decide) (by decide) (by decide))
    have HBN := Lib.hid (HNC.out ▸ HB7.out)
    have CQ := Lib.hid (CR.out _ _ hs7 HZ.out)
    clear hs7 hk7 CN
    have p0 := HBN.out.cell 0
    have p1 := HBN.out.cell 1
    have p2 := HBN.out.cell 2
    have p3 := HBN.out.cell 3
    have p4 := HBN.out.cell 4
    have p5 := HBN.out.cell 5
    have p6 := HBN.out.cell 6
    have pl := HBN.out.lt
    simp at p0 p1 p2 p3 p4 p5 p6
    go_wp2_with fail
    refine CQ.out.mono ?_
    rintro e w9 ⟨rfl, hs9⟩
    have HS9 := Lib.hid hs9
    clear hs9
    go_wp2_with fail
    go_end0
    exact ⟨rfl, by rw [HE.out]; exact HS9.out⟩
  | false =>
  cases k11 : (xk == 11) with
  | true =>
    have hl0 : ∃ y, listAt x 0 = y ∧ y ∈ x.lists ∧ 0 < y.length ∧ 0 < x.lists.length := by
      have h3 := HSF.out
      rw [shapeF, HXK.out, show (xk == 1) = false from k1, k2, k3, k4, k5, k11] at h3
      rw [listAt]
      cases hq : x.lists with
      | nil => rw [hq] at h3; simp at h3
      | cons y l =>
        rw [hq] at h3
        refine ⟨y, rfl, by simp, ?_, by simp⟩
        cases y with
        | nil => simp at h3
        | cons => simp
    obtain ⟨yq, hyq, _, hyl, hn40⟩ := hl0
    obtain ⟨y0, bk0, ok0, ak0, ck0, hy0, hm0, hi0, hb0, hc0, hl0⟩ := LssIn.nth (N4.out ▸ HL.out) 0 0 rfl hn40
    obtain rfl : yq = y0 := hyq.symm.trans hy0
    obtain ⟨xx, rr, d', bk2, ok2, c2', hyx, hdd, hi2, hb2, hce2, hC⟩ := hl0.head hyl
    rw [N4.out] at hi0
    have HND2 := Lib.hid (HND.out d' hdd)
    have HFX : Hid (fn xx = true) := Lib.hid (by
      have h1 := List.all_eq_true.1 HFN.out yq hm0
      rw [hyx] at h1
      exact List.all_eq_true.1 h1 xx (by simp))
    have HONE : Hid (∀ t : St, oneS nd t (listAt x 0) = nd t xx) := Lib.hid fun t => by rw [hyq, hyx]; rfl
    have HCX := Lib.hid hC
    obtain ⟨u1, v1, u2, v2, u3, v3, u4, v4, u5, v5, rfl, _⟩ := hC.open
    obtain ⟨ny, hny⟩ : ∃ n, yq.length = n := ⟨_, rfl⟩
    rw [hny] at hc0 hi2
    have HCE : Hid (∀ V, Below B W V → V.cell? ⟨bk0, ok0, none⟩ = some (.slice ak0 ny ck0) ∧ V.cell? ⟨bk2, ok2, none⟩ = some (.int .i64 xx.kind) ∧ V.cell? ⟨bk2, ok2 + 1, none⟩ = some (.string xx.name) ∧ V.cell? ⟨bk2, ok2 + 2, none⟩ = some (.slice u1 xx.assigns.length v1) ∧ V.cell? ⟨bk2, ok2 + 3, none⟩ = some (.slice u2 xx.words.length v2) ∧ V.cell? ⟨bk2, ok2 + 4, none⟩ = some (.slice u3 xx.redirs.length v3) ∧ V.cell? ⟨bk2, ok2 + 5, none⟩ = some (.slice u4 xx.lists.length v4) ∧ V.cell? ⟨bk2, ok2 + 6, none⟩ = some (.slice u5 xx.arms.length v5)) := Lib.hid fun V hV =>
      ⟨(hV.cell hb0).trans hc0, (hV.cell hb2).trans (hce2 0 _ rfl), (hV.cell hb2).trans (hce2 1 _ rfl), (hV.cell hb2).trans (hce2 2 _ rfl), (hV.cell hb2).trans (hce2 3 _ rfl), (hV.cell hb2).trans (hce2 4 _ rfl), (hV.cell hb2).trans (hce2 5 _ rfl), (hV.cell hb2).trans (hce2 6 _ rfl)⟩
    have hty : 0 < ny := by rw [← hny]; exact hyl
    clear hyq hyl hn40 hy0 hm0 hc0 hyx hdd hce2 hC hny
    rw [k2, k3, k4, k5, k11] at HE HZ HZB
    rw [show (bif false then joinS nd [32, 124, 32] s0 x.lists false else bif false then joinS nd [32, 38, 38, 32] s0 x.lists false else bif false then joinS nd [32, 124, 124, 32] s0 x.lists false else bif false then oneS nd (putS s0 [33, 32]) (listAt x 0) else bif true then oneS nd (putS s0 (L x.name ++ [40, 41, 32])) (listAt x 0) else compS wd wl s0 x) = nd (putS s0 (L x.name ++ [40, 41, 32])) xx from HONE.out _] at HE HZ HZB
    have ka : ∀ V : World, (Op.stringOp .add x.name (⟨#[40, 41, 32]⟩ : ByteArray)).run Tryd.prog V = .ok (.string (x.name ++ (⟨#[40, 41, 32]⟩ : ByteArray))) V := fun V => run_string_add_sum V _ _ (by simp; omega)
    have HN0 := Lib.hid (HNC.out ▸ HB0.out)
    have CS : Hid (∀ X2, Below U.heap.size U X2 → Calls Tryd.prog 24 #[.pointer (some ⟨b, 0, none⟩), .string (x.name ++ (⟨#[40, 41, 32]⟩ : ByteArray))] X2 fun e w' => e = .returned (.tuple #[.int .i64 ((x.name ++ (⟨#[40, 41, 32]⟩ : ByteArray)).size : Nat), .nilIface]) ∧ Shown W B b dv (putS s0 (L x.name ++ [40, 41, 32])) w' ∧ Keeps X2 w') := Lib.hid fun X2 hX2 => by
      have h1 := HSU.out.str2 hX2 (x.name ++ (⟨#[40, 41, 32]⟩ : ByteArray)) (by
        have h2 := Nat.le_trans (HGN.out (putS s0 (L x.name ++ [40, 41, 32])) xx) HZB.out
        simp [putS, L_size] at h2 ⊢
        omega)
      have e : L (x.name ++ (⟨#[40, 41, 32]⟩ : ByteArray)) = L x.name ++ [40, 41, 32] := by simp [L_append]
      rw [e] at h1
      exact h1
    go_enter Tryd.func14, Tryd.ntmps14
    go_wp2_with fail
    rw [← HUE.out]
    have p0 := HN0.out.cell 0
    have p1 := HN0.out.cell 1
    have p2 := HN0.out.cell 2
    have p3 := HN0.out.cell 3
    have p4 := HN0.out.cell 4
    have p5 := HN0.out.cell 5
    have p6 := HN0.out.cell 6
    have pl := HN0.out.lt
    simp at p0 p1 p2 p3 p4 p5 p6
    go_still_tail 6, (by kernel_rfl)
    go_wp2_with fail
    refine (CS.out _ (by repeat' (first | (with_reducible assumption) | (with_reducible exact Below.refl _ _) | (with_reducible refine below_drewN ?_ _) | (with_reducible refine below_bytes ?_ ?_ _) | (with_reducible refine Below.alloc ?_ ?_ _) | (with_reducible refine Below.drew ?_) | (with_reducible refine Below.setCell ?_ ?_ _) | go_size))).mono ?_
    rintro e w1 ⟨rfl, hs1, hk1⟩
    have HBw1 := Lib.hid ((Keeps.trans (Keeps.of_below (by repeat' (first | (with_reducible assumption) | (with_reducible exact Below.refl _ _) | (with_reducible refine below_drewN ?_ _) | (with_reducible refine below_bytes ?_ ?_ _) | (with_reducible refine Below.alloc ?_ ?_ _) | (with_reducible refine Below.drew ?_) | (with_reducible refine Below.setCell ?_ ?_ _) | go_size))) hk1) _ _ _ HB0.out (by decide) (by decide) (by decide))
    have HSw1 := Lib.hid hs1
    clear hs1 hk1 p0 p1 p2 p3 p4 p5 p6 pl HN0 CS
    obtain ⟨e0, g0, g1, g2, g3, g4, g5, g6⟩ := HCE.out _ HSw1.out.low
    have CN := Lib.hid (HSw1.out.twice (Below.refl _ _) fun dv1 h1 => h1.node HND2.out (Below.refl _ _) (HH.out.below HSw1.out.low) (HCX.out.later2 HSw1.out.low) HFX.out HZB.out)
    have HBN := Lib.hid (HNC.out ▸ HBw1.out)
    have p0 := HBN.out.cell 0
    have p1 := HBN.out.cell 1
    have p2 := HBN.out.cell 2
    have p3 := HBN.out.cell 3
    have p4 := HBN.out.cell 4
    have p5 := HBN.out.cell 5
    have p6 := HBN.out.cell 6
    have pl := HBN.out.lt
    simp at p0 p1 p2 p3 p4 p5 p6
    go_wp2_with fail
    clear p0 p1 p2 p3 p4 p5 p6 pl HBN e0 g0 g1 g2 g3 g4 g5 g6
    refine CN.out.mono ?_
    rintro e w7 ⟨rfl, hs7, hk7⟩
    have HB7 := Lib.hid (hk7 _ _ _ HBw1.out (by decide) (by decide) (by decide))
    have HBN := Lib.hid (HNC.out ▸ HB7.out)
    have CQ := Lib.hid (CR.out _ _ hs7 HZ.out)
    clear hs7 hk7 CN
    have p0 := HBN.out.cell 0
    have p1 := HBN.out.cell 1
    have p2 := HBN.out.cell 2
    have p3 := HBN.out.cell 3
    have p4 := HBN.out.cell 4
    have p5 := HBN.out.cell 5
    have p6 := HBN.out.cell 6
    have pl := HBN.out.lt
    simp at p0 p1 p2 p3 p4 p5 p6
    go_wp2_with fail
    refine CQ.out.mono ?_
    rintro e w9 ⟨rfl, hs9⟩
    have HS9 := Lib.hid hs9
    clear hs9
    go_wp2_with fail
    go_end0
    exact ⟨rfl, by rw [HE.out]; exact HS9.out⟩
  | false =>
    rw [k2, k3, k4, k5, k11] at HE HZ HZB
    have CC := Lib.hid (HSU.out.twice (Below.refl _ _) fun dv1 h1 => by
      obtain ⟨dv2, ds2, g1, g2, g3⟩ := shown_st h1
      have g4 := wcompound_any HWD.out HG.out HWL.out HGL.out x _ g1 (HH.out.below hlowU) (HC.out.later2 hlowU) HSF.out (by rw [HXK.out, k1, k2, k3, k4]; rfl) (by rw [HXK.out, k5, k11]; rfl) HFW0.out HFL0.out HFA.out (by rw [g2]; exact HZB.out)
      rw [g2] at g4
      exact g4.mono fun e w' ⟨q1, q2⟩ => ⟨q1, q2.after g3⟩)
    go_enter Tryd.func14, Tryd.ntmps14
    go_wp2_with fail
    rw [← HUE.out]
    refine CC.out.mono ?_
    rintro e w7 ⟨rfl, hs7, hk7⟩
    have HB7 := Lib.hid (hk7 _ _ _ HB0.out (by decide) (by decide) (by decide))
    have HBN := Lib.hid (HNC.out ▸ HB7.out)
    have CQ := Lib.hid (CR.out _ _ hs7 HZ.out)
    clear hs7 hk7 CC
    have p0 := HBN.out.cell 0
    have p1 := HBN.out.cell 1
    have p2 := HBN.out.cell 2
    have p3 := HBN.out.cell 3
    have p4 := HBN.out.cell 4
    have p5 := HBN.out.cell 5
    have p6 := HBN.out.cell 6
    have pl := HBN.out.lt
    simp at p0 p1 p2 p3 p4 p5 p6
    go_wp2_with fail
    refine CQ.out.mono ?_
    rintro e w9 ⟨rfl, hs9⟩
    have HS9 := Lib.hid hs9
    clear hs9
    go_wp2_with fail
    go_end0
    exact ⟨rfl, by rw [HE.out]; exact HS9.out⟩
end Go.Proofs.YtnackmnoldkihaaDoor
/-
  The writer at every depth.
-/
namespace Go.Proofs.YtnackmnoldkihaaDoor
open Go.RowKit

theorem word_zero : WordW 0 (fun s _ => s) (fun _ => true) := by
  intro W B b dv out ds l v hH h hl _ hlen
  rw [PtsIn] at hl
  obtain rfl := hl.zero
  have h1 : PtsIn W B (0 + 1) [] v := by
    rw [PtsIn.succ]
    exact hl.imp (fun _ hs => hs) fun _ _ _ h => h.elim
  exact wword_any 0 (fun s _ => s) (fun _ => false) (fun _ _ => Nat.le_refl _) (fun _ _ _ _ _ _ _ _ _ _ _ hf => Bool.noConfusion hf) W B b dv out ds [] v hH h h1 rfl hlen
theorem list_zero : ListW 0 (fun s _ => s) (fun _ => true) := by
  intro W B b dv out ds l v hH h hl _ hlen
  rw [NdsIn] at hl
  obtain rfl := hl.zero
  have h1 : NdsIn W B (0 + 1) [] v := by
    rw [NdsIn.succ]
    exact hl.imp (fun _ hs => hs) fun _ _ _ h => h.elim
  exact wlist_any 0 (fun s _ => s) (fun _ => false) (fun _ _ => Nat.le_refl _) (fun _ _ _ _ _ _ _ _ _ _ _ hf => Bool.noConfusion hf) W B b dv out ds [] v hH h h1 rfl hlen

/-- word, list, node. -/
theorem levW : ∀ d, WordW d (levS d).1 (levF d).1 ∧ ListW d (levS d).2.1 (levF d).2.1 ∧ NodeW d (levS d).2.2 (levF d).2.2
  | 0 => ⟨word_zero, list_zero, wnode_any word_zero (fun _ _ => Nat.le_refl _) list_zero (fun _ _ => Nat.le_refl _) (fun d' h => by omega) (fun _ _ => Nat.le_refl _)⟩
  | d + 1 => by
    obtain ⟨h1, h2, h3⟩ := levW d
    obtain ⟨g1, g2, g3⟩ := levS_grow d
    obtain ⟨k1, k2, k3⟩ := levS_grow (d + 1)
    have hp := wpart_any d _ _ _ _ g1 g2 h1 h2
    have hw : WordW (d + 1) (levS (d + 1)).1 (levF (d + 1)).1 := wword_any d _ _ (partS_grow g1 g2) hp
    have hl : ListW (d + 1) (levS (d + 1)).2.1 (levF (d + 1)).2.1 := wlist_any d _ _ g3 h3
    exact ⟨hw, hl, wnode_any hw k1 hl k2 (fun d' h => by have e : d' = d := Nat.succ.inj h.symm; rw [e]; exact h3) g3⟩
end Go.Proofs.YtnackmnoldkihaaDoor
/-
  The walk of Show.
-/
namespace Go.Proofs.YtnackmnoldkihaaDoor
open Go.RowKit

set_option maxHeartbeats 1000000 in
set_option maxRecDepth 100000 in
theorem show_any (d : Nat) (l : List Nd) (v : Value) (w : World) (hH : Hd w w.heap.size) (hl : NdsIn w w.heap.size d l v) (hf : (levF d).2.1 l = true) (hne : showL d l ≠ []) (hlen : (showL d l).length ≤ lim) :
    Calls Tryd.prog 7 #[v] w fun e w' => e = .returned (.string (S (showL d l))) ∧ Below w.heap.size w w' := by
  obtain ⟨a, cap, rfl, _⟩ := hl.shape
  obtain ⟨W, hW⟩ : ∃ W, W = w.alloc (.cells #[.pointer none, .slice none 0 0, .slice none 0 0] 49) := ⟨_, rfl⟩
  have hbl : Below w.heap.size w W := by rw [hW]; exact (Below.refl _ _).alloc (Nat.le_refl _) _
  have hwr : Wr W w.heap.size w.heap.size (.slice none 0 0) [] [] := ⟨Nat.le_refl _, ⟨.slice none 0 0, .pointer none, by rw [hW]; exact Blk.new _ _ _, .inl rfl, OwnB.nil _ _⟩, World.ownsRow_nil _ _ _ _, fun r hr => by simp at hr, Nat.le_refl _⟩
  have CL := Lib.hid ((levW d).2.1 W w.heap.size w.heap.size _ [] [] l _ (hH.below hbl) hwr (hl.below hbl) hf hlen)
  have HNE := Lib.hid hne
  have HBL := Lib.hid hbl
  have HW := Lib.hid hW
  clear hH hl hf hne hlen hW hbl hwr
  go_enter Tryd.func7, Tryd.ntmps7
  go_wp2_with fail
  rw [← HW.out]
  refine CL.out.mono ?_
  rintro e w1 ⟨rfl, hs⟩
  have hlow := hs.low
  obtain ⟨dv, ds, h1, h2, h3⟩ := shown_st hs
  have CS := Lib.hid (string_any h1 HNE.out)
  have HB1 := Lib.hid (HBL.out.trans hlow)
  clear hs h1 h2 h3 hlow
  go_wp2_with fail
  refine CS.out.mono ?_
  rintro e w2 ⟨rfl, hb⟩
  have HB2 := Lib.hid (HB1.out.trans hb)
  clear hb
  go_wp2_with fail
  go_ret
  exact ⟨rfl, HB2.out⟩
end Go.Proofs.YtnackmnoldkihaaDoor
/-
  What is right can be shown.
-/
namespace Go.Proofs.YtnackmnoldkihaaDoor
open Go.RowKit

theorem all_of {α : Type} {f g : α → Bool} {l : List α} (h : l.all f = true) (hf : ∀ x, f x = true → g x = true) : l.all g = true :=
  List.all_eq_true.2 fun x hx => hf x (List.all_eq_true.1 h x hx)
section
variable {wd : List Pt → Bool} {ls : List Nd → Bool} {fw : List Pt → Bool} {fl : List Nd → Bool} {fn : Nd → Bool} (hw : ∀ y, wd y = true → fw y = true) (hl : ∀ y, ls y = true → fl y = true) (hn : ∀ y, ls y = true → y.all fn = true)
include hw
theorem redirF_ok {r : Rd} (h : redirB wd r = true) : redirF fw r = true := by
  rw [redirB, Bool.and_eq_true] at h
  rw [redirF, Bool.and_eq_true]
  refine ⟨h.1, ?_⟩
  have h2 := h.2
  cases hop : (L r.op == [60, 60]) with
  | true =>
    rw [hop, cond_true, docB] at h2
    simp only [Bool.and_eq_true] at h2
    exact hw _ h2.2.1
  | false =>
    rw [hop, cond_false] at h2
    simp only [Bool.and_eq_true] at h2
    exact hw _ h2.2.2.1
include hl hn
theorem nodeF_of {x : Nd} (hsh : shapeF x = true) (ha : x.assigns.all (fun a => wd a.word) = true) (hws : x.words.all (someB wd) = true) (hr : x.redirs.all (redirB wd) = true) (hls : x.lists.all (somesB ls) = true) (hm : x.arms.all (armB wd ls) = true) : nodeF fw fl fn x = true := by
  simp only [nodeF, Bool.and_eq_true]
  refine ⟨hsh, all_of ha fun a h => hw _ h, all_of hws fun y h => ?_, all_of hr fun r h => redirF_ok hw h, all_of hls fun y h => ?_, all_of hls fun y h => ?_, all_of hm fun a h => ?_⟩
  · rw [someB, Bool.and_eq_true] at h; exact hw _ h.1
  · rw [somesB, Bool.and_eq_true] at h; exact hl _ h.1
  · rw [somesB, Bool.and_eq_true] at h; exact hn _ h.1
  · simp only [armB, Bool.and_eq_true] at h
    rw [Bool.and_eq_true]
    exact ⟨all_of h.2.2 fun y h => by rw [someB, Bool.and_eq_true] at h; exact hw _ h.1, hl _ h.2.1⟩
omit hw hl hn
theorem all_empty {α : Type} {l : List α} {f : α → Bool} (h : l.isEmpty = true) : l.all f = true := by cases l with | nil => rfl | cons => simp at h
theorem lists_full {x : Nd} (h : x.lists.all (somesB ls) = true) : x.lists.all (fun l => !l.isEmpty) = true := all_of h fun y h => by rw [somesB, Bool.and_eq_true] at h; exact h.2
theorem sole_head {may : Nat → Int → Bool} {i : Nat} {l : List (List Nd)} (h : soleB may i l = true) (h1 : 1 ≤ l.length) : ∃ y r, l = y :: r ∧ (!y.isEmpty) = true := by
  cases l with
  | nil => simp at h1
  | cons y r =>
    refine ⟨y, r, rfl, ?_⟩
    cases y with
    | nil => simp [soleB] at h
    | cons => rfl
include hw hl hn
theorem nodeF_ok {x : Nd} (h : nodeB wd ls x = true) : nodeF fw fl fn x = true := by
  rw [nodeB, Bool.and_eq_true, Bool.and_eq_true] at h
  obtain ⟨hws, hr, h⟩ := h
  cases k1 : (x.kind == 1) with
  | true =>
    rw [k1, cond_true] at h
    simp only [simpleB, Bool.and_eq_true] at h
    obtain ⟨ha, _, _, ⟨hle, hae⟩, _⟩ := h
    exact nodeF_of hw hl hn (by rw [shapeF, k1]; rfl) (all_of ha fun a h => by rw [Bool.and_eq_true] at h; exact h.2) hws hr (all_empty hle) (all_empty hae)
  | false =>
  rw [k1, cond_false] at h
  cases kj : ((x.kind == 2 || x.kind == 3) || (x.kind == 4 || x.kind == 5)) with
  | true =>
    rw [kj, cond_true] at h
    simp only [joinedB, bareN, Bool.and_eq_true] at h
    obtain ⟨⟨⟨_, ha, _, hm⟩, _⟩, h⟩ := h
    cases k2 : (x.kind == 2) with
    | true =>
      rw [k2, cond_true] at h
      simp only [aloneB, Bool.and_eq_true] at h
      exact nodeF_of hw hl hn (by rw [shapeF, k1, k2]; exact lists_full h.2.1) (all_empty ha) hws hr h.2.1 (all_empty hm)
    | false =>
    rw [k2, cond_false] at h
    cases k5 : (x.kind == 5) with
    | true =>
      rw [k5, cond_true] at h
      simp only [aloneB, Bool.and_eq_true] at h
      have k3 : (x.kind == 3) = false := by rw [eq_of_beq k5]; rfl
      have k4 : (x.kind == 4) = false := by rw [eq_of_beq k5]; rfl
      exact nodeF_of hw hl hn (by obtain ⟨y, r, hq, hy⟩ := sole_head h.2.2.2 (of_decide_eq_true h.2.1); rw [shapeF, k1, k2, k3, k4, k5, hq]; exact hy) (all_empty ha) hws hr h.2.2.1 (all_empty hm)
    | false =>
      rw [k5, cond_false] at h
      simp only [aloneB, Bool.and_eq_true] at h
      have k34 : ((x.kind == 2 || x.kind == 3) || x.kind == 4) = true := by rw [k5] at kj; simpa using kj
      exact nodeF_of hw hl hn (by rw [shapeF, k1, k34]; exact lists_full h.2.2.1) (all_empty ha) hws hr h.2.2.1 (all_empty hm)
  | false =>
    rw [kj, cond_false] at h
    have k234 : ((x.kind == 2 || x.kind == 3) || x.kind == 4) = false := by
      simp only [Bool.or_eq_false_iff] at kj ⊢; exact ⟨kj.1, kj.2.1⟩
    have k5 : (x.kind == 5) = false := by simp only [Bool.or_eq_false_iff] at kj; exact kj.2.2
    have lenOf : ∀ {q : Nat}, listsB ls x q = true → x.lists.length = q ∧ x.lists.all (somesB ls) = true := fun h => by
      rw [listsB, Bool.and_eq_true] at h; exact ⟨of_decide_eq_true h.1, h.2⟩
    rw [compoundB] at h
    cases k6 : (x.kind == 6) with
    | true =>
      have k11 : (x.kind == 11) = false := by rw [eq_of_beq k6]; rfl
      rw [k6, cond_true] at h
      simp only [bareN, Bool.and_eq_true, Bool.or_eq_true] at h
      obtain ⟨⟨_, ha, _, hm⟩, h⟩ := h
      have h2 : 2 ≤ x.lists.length ∧ x.lists.all (somesB ls) = true := by
        rcases h with h | h <;> (have := lenOf h; exact ⟨by omega, this.2⟩)
      exact nodeF_of hw hl hn (by rw [shapeF, k1, k234, k5, k11, k6]; exact decide_eq_true h2.1) (all_empty ha) hws hr h2.2 (all_empty hm)
    | false =>
    rw [k6, cond_false] at h
    cases k78 : (x.kind == 7 || x.kind == 8) with
    | true =>
      have k11 : (x.kind == 11) = false := by
        rw [Bool.or_eq_true] at k78; rcases k78 with k | k <;> (rw [eq_of_beq k]; rfl)
      rw [k78, cond_true] at h
      simp only [bareN, Bool.and_eq_true] at h
      obtain ⟨⟨_, ha, _, hm⟩, h⟩ := h
      have h2 := lenOf h
      exact nodeF_of hw hl hn (by rw [shapeF, k1, k234, k5, k11, k6, k78]; exact decide_eq_true (by omega)) (all_empty ha) hws hr h2.2 (all_empty hm)
    | false =>
    rw [k78, cond_false] at h
    cases kc : (x.kind == 12 || x.kind == 13) with
    | true =>
      have k11 : (x.kind == 11) = false := by
        rw [Bool.or_eq_true] at kc; rcases kc with k | k <;> (rw [eq_of_beq k]; rfl)
      have k10 : (x.kind == 10) = false := by
        rw [Bool.or_eq_true] at kc; rcases kc with k | k <;> (rw [eq_of_beq k]; rfl)
      rw [kc, cond_true] at h
      simp only [bareN, Bool.and_eq_true] at h
      obtain ⟨⟨_, ha, _, hm⟩, h⟩ := h
      have h2 := lenOf h
      exact nodeF_of hw hl hn (by rw [shapeF, k1, k234, k5, k11, k6, k78, k10]; exact decide_eq_true (by omega)) (all_empty ha) hws hr h2.2 (all_empty hm)
    | false =>
    rw [kc, cond_false] at h
    cases k9 : (x.kind == 9) with
    | true =>
      have k11 : (x.kind == 11) = false := by rw [eq_of_beq k9]; rfl
      have k10 : (x.kind == 10) = false := by rw [eq_of_beq k9]; rfl
      rw [k9, cond_true] at h
      simp only [Bool.and_eq_true] at h
      obtain ⟨_, ⟨ha, hm⟩, h⟩ := h
      have h2 := lenOf h
      exact nodeF_of hw hl hn (by rw [shapeF, k1, k234, k5, k11, k6, k78, k10]; exact decide_eq_true (by omega)) (all_empty ha) hws hr h2.2 (all_empty hm)
    | false =>
    rw [k9, cond_false] at h
    cases k10 : (x.kind == 10) with
    | true =>
      have k11 : (x.kind == 11) = false := by rw [eq_of_beq k10]; rfl
      rw [k10, cond_true] at h
      simp only [Bool.and_eq_true] at h
      obtain ⟨_, ha, hw1, h, hm⟩ := h
      have h2 := lenOf h
      have hw2 := of_decide_eq_true hw1
      exact nodeF_of hw hl hn (by rw [shapeF, k1, k234, k5, k11, k6, k78, k10]; cases hq : x.words with | nil => rw [hq] at hw2; simp at hw2 | cons => rfl) (all_empty ha) hws hr h2.2 hm
    | false =>
    rw [k10, cond_false] at h
    cases k11 : (x.kind == 11) with
    | true =>
      rw [k11, cond_true] at h
      simp only [aloneB, Bool.and_eq_true] at h
      obtain ⟨_, _, ⟨ha, _, hm, _⟩, _, hc, hls, hs⟩ := h
      exact nodeF_of hw hl hn (by obtain ⟨y, r, hq, hy⟩ := sole_head hs (of_decide_eq_true hc); rw [shapeF, k1, k234, k5, k11, hq]; exact hy) (all_empty ha) hws hr hls (all_empty hm)
    | false =>
      rw [k11, cond_false] at h
      exact Bool.noConfusion h
end

theorem partF_ok {wd : List Pt → Bool} {ls : List Nd → Bool} {fw : List Pt → Bool} {fl : List Nd → Bool} (hw : ∀ y, wd y = true → fw y = true) (hl : ∀ y, ls y = true → fl y = true) (h0 : fw [] = true) (h1 : fl [] = true) {q : Option Pt} {p : Pt} (h : partB wd ls q p = true) (hlit : p.kind = 1 → p.word = [] ∧ p.body = []) : partF fw fl p = true := by
  have e0 : ∀ {l : List Pt}, l.isEmpty = true → fw l = true := fun h => by rw [List.isEmpty_iff] at h; rw [h]; exact h0
  have e1 : ∀ {l : List Nd}, l.isEmpty = true → fl l = true := fun h => by rw [List.isEmpty_iff] at h; rw [h]; exact h1
  rw [partB, Bool.and_eq_true] at h
  rw [partF, Bool.and_eq_true]
  have h := h.2
  cases k1 : (p.kind == 1) with
  | true =>
    obtain ⟨a, b⟩ := hlit (eq_of_beq k1)
    rw [a, b]; exact ⟨h0, h1⟩
  | false =>
  rw [k1, cond_false] at h
  cases k2 : (p.kind == 2) with
  | true =>
    rw [k2, cond_true, paramB, Bool.and_eq_true] at h
    have hb : p.body.isEmpty = true := by
      have h3 := h.1
      cases hq : p.body.isEmpty with
      | true => rfl
      | false => rw [hq] at h3; simp at h3
    refine ⟨?_, e1 hb⟩
    have h3 := h.2
    cases ho : (L p.op).isEmpty with
    | true => rw [ho, cond_true] at h3; exact e0 h3
    | false =>
    rw [ho, cond_false] at h3
    cases h5 : (L p.op == [108, 101, 110]) with
    | true => rw [h5, cond_true, Bool.and_eq_true] at h3; exact e0 h3.2
    | false =>
      rw [h5, cond_false] at h3
      simp only [Bool.and_eq_true] at h3
      exact hw _ h3.2.2.2
  | false =>
  rw [k2, cond_false] at h
  cases k3 : (p.kind == 3) with
  | true =>
    rw [k3, cond_true] at h
    simp only [Bool.and_eq_true] at h
    exact ⟨e0 h.2.2.1, hl _ h.2.2.2⟩
  | false =>
  rw [k3, cond_false] at h
  cases k4 : (p.kind == 4) with
  | true =>
    rw [k4, cond_true] at h
    simp only [Bool.and_eq_true] at h
    exact ⟨e0 h.2.2.1, e1 h.2.2.2⟩
  | false => rw [k4, cond_false] at h; exact Bool.noConfusion h
end Go.Proofs.YtnackmnoldkihaaDoor
/-
  What is right can be shown, at every depth.
-/
namespace Go.Proofs.YtnackmnoldkihaaDoor
open Go.RowKit

theorem lit_bare {q : Option Pt} {p : Pt} {wd : List Pt → Bool} {ls : List Nd → Bool} (h : partB wd ls q p = true) (h1 : p.kind = 1) : p.word = [] ∧ p.body = [] := by
  rw [partB, Bool.and_eq_true] at h
  have h := h.2
  rw [show (p.kind == 1) = true by rw [h1]; rfl, cond_true] at h
  simp only [litB, Bool.and_eq_true, List.isEmpty_iff] at h
  exact ⟨h.1.1.2.1, h.1.1.2.2⟩
theorem parts_all {f : Option Pt → Pt → Bool} {g : Pt → Bool} (hf : ∀ q p, f q p = true → g p = true) : ∀ (l : List Pt) (q : Option Pt), partsB f q l = true → l.all g = true
  | [], _, _ => rfl
  | p :: l, q, h => by
    rw [partsB, Bool.and_eq_true] at h
    rw [List.all_cons, Bool.and_eq_true]
    exact ⟨hf _ _ h.1, parts_all hf l _ h.2⟩
theorem okW_nil (n : Nat) : okW n [] = true := by cases n <;> rw [okW] <;> rfl
theorem okL_nil (n : Nat) : okL n [] = true := by cases n <;> rw [okL] <;> rfl
theorem okL_all {n : Nat} {l : List Nd} {g : Nd → Bool} (h : okL n l = true) (hg : ∀ m, n = m + 1 → ∀ x, nodeB (okW m) (okL m) x = true → g x = true) : l.all g = true := by
  cases n with
  | zero => rw [okL, List.isEmpty_iff] at h; rw [h]; rfl
  | succ m => rw [okL] at h; exact all_of h (hg m rfl)
/-- Of what is right all can be shown. -/
theorem right_lev : ∀ d n, (∀ y, okW n y = true → (levF d).1 y = true) ∧ (∀ l, okL n l = true → (levF d).2.1 l = true) ∧ (∀ l, okL n l = true → l.all (levF d).2.2 = true)
  | 0, n => ⟨fun _ _ => rfl, fun _ _ => rfl, fun l h => okL_all h fun m _ x hx => nodeF_ok (wd := okW m) (ls := okL m) (fun _ _ => rfl) (fun _ _ => rfl) (fun y _ => List.all_eq_true.2 fun _ _ => rfl) hx⟩
  | d + 1, n => by
    have h1 : ∀ n y, okW n y = true → (levF (d + 1)).1 y = true := fun n y h => by
      show y.all (partF (levF d).1 (levF d).2.1) = true
      cases n with
      | zero => rw [okW, List.isEmpty_iff] at h; rw [h]; rfl
      | succ m =>
        rw [okW] at h
        obtain ⟨g1, g2, _⟩ := right_lev d m
        exact parts_all (fun q p hp => partF_ok g1 g2 (g1 _ (okW_nil m)) (g2 _ (okL_nil m)) hp (lit_bare hp)) y _ h
    have h2 : ∀ n l, okL n l = true → (levF (d + 1)).2.1 l = true := fun n l h => (right_lev d n).2.2 l h
    exact ⟨h1 n, h2 n, fun l h => okL_all h fun m _ x hx => nodeF_ok (h1 m) (h2 m) (right_lev d m).2.2 hx⟩
theorem right_shows (d n : Nat) (l : List Nd) (h : okL n l = true) : (levF d).2.1 l = true := (right_lev d n).2.1 l h
/-- What is shown of commands is not empty. -/
theorem show_ne (d : Nat) (l : List Nd) (hd : l ≠ []) : showL (d + 1) l ≠ [] := by
  cases l with
  | nil => exact absurd rfl hd
  | cons x r =>
    intro h
    have h1 : (lineS ((levS d).2.2 ([], []) x)).1.length ≤ (showL (d + 1) (x :: r)).length :=
      fold_grow (f := fun s x => lineS ((levS d).2.2 s x)) (fun s x => Nat.le_trans ((levS_grow d).2.2 s x) (lineS_grow _)) r (lineS ((levS d).2.2 ([], []) x))
    rw [h] at h1
    simp [lineS] at h1
end Go.Proofs.YtnackmnoldkihaaDoor
/-
  The walk of Show of no commands.
-/
namespace Go.Proofs.YtnackmnoldkihaaDoor
open Go.RowKit

set_option maxHeartbeats 1000000 in
set_option maxRecDepth 100000 in
theorem wlist_nil (p : Value) (a : Option Addr) (cap : Nat) (W : World) :
    Calls Tryd.prog 10 #[p, .slice a 0 cap] W fun e w' => e = .returned (.tuple #[]) ∧ Below W.heap.size W w' := by
  go_enter Tryd.func10, Tryd.ntmps10
  go_wp2_with fail
  refine wp_loop_rounds 1 ?_
  rw [rounds_succ]
  go_wp2_with fail
  go_end0
  exact ⟨rfl, (by repeat' (first | (with_reducible assumption) | (with_reducible exact Below.refl _ _) | (with_reducible refine below_drewN ?_ _) | (with_reducible refine below_bytes ?_ ?_ _) | (with_reducible refine Below.alloc ?_ ?_ _) | (with_reducible refine Below.drew ?_) | (with_reducible refine Below.setCell ?_ ?_ _) | go_size))⟩
set_option maxHeartbeats 1000000 in
set_option maxRecDepth 100000 in
theorem string_nil {W : World} {B b : Nat} {p dv : Value} (hbk : W.heap[b]? = some (.cells #[p, .slice none 0 0, dv] 49 (0, 0))) (hB : B ≤ W.heap.size) :
    Calls Tryd.prog 11 #[.pointer (some ⟨b, 0, none⟩)] W fun e w' => e = .returned (.string ByteArray.empty) ∧ Below B W w' := by
  have c1 : W.drew.cell? ⟨b, 1, none⟩ = some (.slice none 0 0) := by
    have : W.drew.heap[b]? = some (.cells #[p, .slice none 0 0, dv] 49 (0, 0)) := hbk
    rw [Lib.cell_of_heap this]; rfl
  have hSD : (Builtin.unsafeSliceData_ #[45] 59 #[.slice none 0 0]).run Tryd.prog W.drew = .ok (.pointer none) W.drew := rfl
  have hUS : (Builtin.unsafeString_ #[59, 3] 9 #[.pointer none, .int .i64 0]).run Tryd.prog W.drew = .ok (.string ByteArray.empty) W.drew := by rfl
  clear hbk hB
  go_enter Tryd.func11, Tryd.ntmps11
  go_wp2
  go_region
  all_goals (go_wp2; go_ret; exact ⟨rfl, Below.drew (Below.refl B W)⟩)
set_option maxHeartbeats 1000000 in
set_option maxRecDepth 100000 in
theorem show_nil (a : Option Addr) (cap : Nat) (w : World) :
    Calls Tryd.prog 7 #[.slice a 0 cap] w fun e w' => e = .returned (.string ByteArray.empty) ∧ Below w.heap.size w w' := by
  obtain ⟨W, hW⟩ : ∃ W, W = w.alloc (.cells #[.pointer none, .slice none 0 0, .slice none 0 0] 49) := ⟨_, rfl⟩
  have HK : Hid (Blk W w.heap.size 49 #[.pointer none, .slice none 0 0, .slice none 0 0]) := Lib.hid (by rw [hW]; exact Blk.new _ _ _)
  have HBL : Hid (Below w.heap.size w W) := Lib.hid (by rw [hW]; exact (Below.refl _ _).alloc (Nat.le_refl _) _)
  have CL := Lib.hid (wlist_nil (.pointer (some ⟨w.heap.size, 0, none⟩)) a cap W)
  have HW := Lib.hid hW
  clear hW
  go_enter Tryd.func7, Tryd.ntmps7
  go_wp2_with fail
  rw [← HW.out]
  refine CL.out.mono ?_
  rintro e w1 ⟨rfl, hlow⟩
  have HB1 : Hid (Below w.heap.size w w1) := Lib.hid (HBL.out.trans (hlow.mono HBL.out.size))
  have CS := Lib.hid (string_nil (B := w.heap.size) (HK.out.below hlow HK.out.lt) HB1.out.size)
  clear hlow
  go_wp2_with fail
  refine CS.out.mono ?_
  rintro e w2 ⟨rfl, hb⟩
  have HB2 := Lib.hid (HB1.out.trans hb)
  clear hb
  go_wp2_with fail
  go_ret
  exact ⟨rfl, HB2.out⟩
end Go.Proofs.YtnackmnoldkihaaDoor
/-
  Show of what is right.
-/
namespace Go.Proofs.YtnackmnoldkihaaDoor
open Go.RowKit

theorem showL_nil (d : Nat) : showL d [] = [] := by cases d <;> rfl
theorem show_right (d n : Nat) (l : List Nd) (v : Value) (w : World) (hH : Hd w w.heap.size) (hl : NdsIn w w.heap.size d l v) (h : okL n l = true) (hlen : (showL d l).length ≤ lim) :
    Calls Tryd.prog 7 #[v] w fun e w' => e = .returned (.string (S (showL d l))) ∧ Below w.heap.size w w' := by
  cases l with
  | nil =>
    obtain ⟨a, cap, rfl, _⟩ := hl.shape
    rw [showL_nil]
    exact show_nil a cap w
  | cons x r =>
    cases d with
    | zero =>
      rw [NdsIn] at hl
      have e := hl.zero
      simp at e
    | succ d => exact show_any (d + 1) _ v w hH hl (right_shows _ n _ h) (show_ne d _ (by simp)) hlen
end Go.Proofs.YtnackmnoldkihaaDoor
/-
  The anchor's commands, as they lie.
-/
namespace Go.Proofs.YtnackmnoldkihaaDoor
open Go.RowKit

theorem Sl.blk {w : World} {g B n size : Nat} {t : TypeId} {cs : Array Value} (h : Blk w g t cs) (hs : cs.size = n * size) (hn : n ≤ maxLen) (hB : g < B) : Sl w B size (.slice (some ⟨g, 0, none⟩) n n) n cs.toList := by
  refine ⟨by simp [hs], some ⟨g, 0, none⟩, n, rfl, Nat.le_refl _, hn, .inr ⟨g, 0, rfl, hB, ?_⟩⟩
  intro j _
  rw [Nat.zero_add, h.cell j]
  simp
def litP (q : Bool) (t : ByteArray) : Pt := .mk 1 q t ByteArray.empty [] []
def anchorN : Nd := .mk 1 ByteArray.empty [] [[litP false ⟨#[101, 99, 104, 111]⟩], [litP true ⟨#[97, 32, 98]⟩]] [⟨1, ⟨#[62]⟩, ByteArray.empty, [litP false ⟨#[120]⟩]⟩] [] []
theorem anchor_ok : okL 2 [anchorN] = true := by decide +kernel
theorem anchor_show : showL 2 [anchorN] = [101, 99, 104, 111, 32, 39, 97, 32, 98, 39, 32, 49, 62, 120, 10] := by decide +kernel
theorem SlOf.nil {α : Type} {w : World} {B size : Nat} {F : α → List Value → Prop} : SlOf w B size F [] (.slice none 0 0) :=
  ⟨Nat.zero_le _, [], rfl, fun c hc => by simp at hc, Sl.nil w B size, fun i x c hx => by simp at hx⟩
theorem SlOf.one {α : Type} {w : World} {B size g : Nat} {t : TypeId} {cs : Array Value} {F : α → List Value → Prop} {x : α} (h : Blk w g t cs) (hs : cs.size = size) (hB : g < B) (hF : F x cs.toList) : SlOf w B size F [x] (.slice (some ⟨g, 0, none⟩) 1 1) := by
  refine ⟨(by simp [bigN] : [x].length ≤ bigN), [cs.toList], rfl, fun c hc => by simp at hc; rw [hc]; simpa using hs, ?_, fun i y c hy hc => ?_⟩
  · have h1 := Sl.blk (n := 1) (size := size) h (by omega) (by decide) hB
    simpa using h1
  · cases i with
    | zero => simp at hy hc; subst hy; subst hc; exact hF
    | succ i => simp at hy
theorem pts_nil (w : World) (B d : Nat) : PtsIn w B d [] (.slice none 0 0) := by cases d <;> (rw [PtsIn]; exact SlOf.nil)
theorem nds_nil (w : World) (B d : Nat) : NdsIn w B d [] (.slice none 0 0) := by cases d <;> (rw [NdsIn]; exact SlOf.nil)
theorem lit_in {w : World} {B g d : Nat} {q : Bool} {t : ByteArray} (h : Blk w g 28 #[.int .i64 1, .bool q, .string t, .string ByteArray.empty, .slice none 0 0, .slice none 0 0]) (ht : t.size ≤ bigN) (hB : g < B) : PtsIn w B (d + 1) [litP q t] (.slice (some ⟨g, 0, none⟩) 1 1) := by
  rw [PtsIn.succ]
  exact SlOf.one h rfl hB ⟨ht, Nat.zero_le _, _, _, rfl, pts_nil w B d, nds_nil w B d⟩
theorem anchor_in {w : World} {B g0 g1 g2 g3 g4 g6 : Nat}
    (h0 : Blk w g0 28 #[.int .i64 1, .bool false, .string ⟨#[101, 99, 104, 111]⟩, .string ByteArray.empty, .slice none 0 0, .slice none 0 0])
    (h1 : Blk w g1 28 #[.int .i64 1, .bool true, .string ⟨#[97, 32, 98]⟩, .string ByteArray.empty, .slice none 0 0, .slice none 0 0])
    (h2 : Blk w g2 26 #[.slice (some ⟨g0, 0, none⟩) 1 1, .slice (some ⟨g1, 0, none⟩) 1 1])
    (h3 : Blk w g3 28 #[.int .i64 1, .bool false, .string ⟨#[120]⟩, .string ByteArray.empty, .slice none 0 0, .slice none 0 0])
    (h4 : Blk w g4 31 #[.int .i64 1, .string ⟨#[62]⟩, .string ByteArray.empty, .slice (some ⟨g3, 0, none⟩) 1 1])
    (h6 : Blk w g6 37 #[.int .i64 1, .string ByteArray.empty, .slice none 0 0, .slice (some ⟨g2, 0, none⟩) 2 2, .slice (some ⟨g4, 0, none⟩) 1 1, .slice none 0 0, .slice none 0 0])
    (b0 : g0 < B) (b1 : g1 < B) (b2 : g2 < B) (b3 : g3 < B) (b4 : g4 < B) (b6 : g6 < B) : NdsIn w B 2 [anchorN] (.slice (some ⟨g6, 0, none⟩) 1 1) := by
  rw [NdsIn.succ]
  refine SlOf.one h6 rfl b6 ⟨by decide, _, _, _, _, _, rfl, SlOf.nil, ?_, ?_, SlOf.nil, SlOf.nil⟩
  · refine ⟨by decide, [[.slice (some ⟨g0, 0, none⟩) 1 1], [.slice (some ⟨g1, 0, none⟩) 1 1]], rfl, fun c hc => by simp at hc; rcases hc with rfl | rfl <;> rfl, Sl.blk (n := 2) (size := 1) h2 rfl (by decide) b2, fun i y c hy hc => ?_⟩
    match i, hy, hc with
    | 0, hy, hc => cases hy; cases hc; exact ⟨_, rfl, lit_in h0 (by decide) b0⟩
    | 1, hy, hc => cases hy; cases hc; exact ⟨_, rfl, lit_in h1 (by decide) b1⟩
  · exact SlOf.one h4 rfl b4 ⟨by decide, by decide, by decide, _, rfl, lit_in h3 (by decide) b3⟩
end Go.Proofs.YtnackmnoldkihaaDoor
namespace Go.Proofs.YtnackmnoldkihaaDoor
open Go.RowKit

set_option maxHeartbeats 2000000 in
set_option maxRecDepth 100000 in
theorem anchor_any (w : World) (hv : Held w) (hH : Hd w w.heap.size) :
    Calls Tryd.prog 4 #[] w fun e w' => e = .returned (.bool true) ∧ Below w.heap.size w w' := by
  obtain ⟨U0, hU0⟩ : ∃ U0, U0 = ((((((w.alloc (.cells #[.int .i64 1, .bool false, .string ⟨#[101, 99, 104, 111]⟩, .string ⟨#[]⟩, .slice none 0 0, .slice none 0 0] 28)).alloc (.cells #[.int .i64 1, .bool true, .string ⟨#[97, 32, 98]⟩, .string ⟨#[]⟩, .slice none 0 0, .slice none 0 0] 28)).alloc (.cells #[.slice (some ⟨w.heap.size, 0, none⟩) 1 1, .slice (some ⟨w.heap.size + 1, 0, none⟩) 1 1] 26)).alloc (.cells #[.int .i64 1, .bool false, .string ⟨#[120]⟩, .string ⟨#[]⟩, .slice none 0 0, .slice none 0 0] 28)).alloc (.cells #[.int .i64 1, .string ⟨#[62]⟩, .string ⟨#[]⟩, .slice (some ⟨w.heap.size + 1 + 1 + 1, 0, none⟩) 1 1] 31)).alloc (.cells #[.int .i64 1, .string ⟨#[]⟩, .slice none 0 0, .slice (some ⟨w.heap.size + 1 + 1, 0, none⟩) 2 2, .slice (some ⟨w.heap.size + 1 + 1 + 1 + 1, 0, none⟩) 1 1, .slice none 0 0, .slice none 0 0] 37)) := ⟨_, rfl⟩
  obtain ⟨U, hU⟩ : ∃ U, U = U0.alloc (.cells #[.int .i64 1, .string ⟨#[]⟩, .slice none 0 0, .slice (some ⟨w.heap.size + 1 + 1, 0, none⟩) 2 2, .slice (some ⟨w.heap.size + 1 + 1 + 1 + 1, 0, none⟩) 1 1, .slice none 0 0, .slice none 0 0] 37) := ⟨_, rfl⟩
  have hz : U.heap.size = w.heap.size + 1 + 1 + 1 + 1 + 1 + 1 + 1 := by rw [hU, hU0]; simp
  have h0 : Blk U w.heap.size 28 #[.int .i64 1, .bool false, .string ⟨#[101, 99, 104, 111]⟩, .string ByteArray.empty, .slice none 0 0, .slice none 0 0] := by rw [hU, hU0]; exact ((((((Blk.at rfl).alloc _).alloc _).alloc _).alloc _).alloc _).alloc _
  have h1 : Blk U (w.heap.size + 1) 28 #[.int .i64 1, .bool true, .string ⟨#[97, 32, 98]⟩, .string ByteArray.empty, .slice none 0 0, .slice none 0 0] := by rw [hU, hU0]; exact (((((Blk.at (by simp)).alloc _).alloc _).alloc _).alloc _).alloc _
  have h2 : Blk U (w.heap.size + 1 + 1) 26 #[.slice (some ⟨w.heap.size, 0, none⟩) 1 1, .slice (some ⟨w.heap.size + 1, 0, none⟩) 1 1] := by rw [hU, hU0]; exact ((((Blk.at (by simp)).alloc _).alloc _).alloc _).alloc _
  have h3 : Blk U (w.heap.size + 1 + 1 + 1) 28 #[.int .i64 1, .bool false, .string ⟨#[120]⟩, .string ByteArray.empty, .slice none 0 0, .slice none 0 0] := by rw [hU, hU0]; exact (((Blk.at (by simp)).alloc _).alloc _).alloc _
  have h4 : Blk U (w.heap.size + 1 + 1 + 1 + 1) 31 #[.int .i64 1, .string ⟨#[62]⟩, .string ByteArray.empty, .slice (some ⟨w.heap.size + 1 + 1 + 1, 0, none⟩) 1 1] := by rw [hU, hU0]; exact ((Blk.at (by simp)).alloc _).alloc _
  have h6 : Blk U (w.heap.size + 1 + 1 + 1 + 1 + 1 + 1) 37 #[.int .i64 1, .string ByteArray.empty, .slice none 0 0, .slice (some ⟨w.heap.size + 1 + 1, 0, none⟩) 2 2, .slice (some ⟨w.heap.size + 1 + 1 + 1 + 1, 0, none⟩) 1 1, .slice none 0 0, .slice none 0 0] := by rw [hU, hU0]; exact Blk.at (by simp)
  have hbU : Below w.heap.size w U := by rw [hU, hU0]; exact (by repeat' (first | (with_reducible assumption) | (with_reducible exact Below.refl _ _) | (with_reducible refine below_drewN ?_ _) | (with_reducible refine below_bytes ?_ ?_ _) | (with_reducible refine Below.alloc ?_ ?_ _) | (with_reducible refine Below.drew ?_) | (with_reducible refine Below.setCell ?_ ?_ _) | go_size))
  have HIN : Hid (NdsIn U U.heap.size 2 [anchorN] (.slice (some ⟨w.heap.size + 1 + 1 + 1 + 1 + 1 + 1, 0, none⟩) 1 1)) := Lib.hid (anchor_in h0 h1 h2 h3 h4 h6 (by omega) (by omega) (by omega) (by omega) (by omega) (by omega))
  have CR := Lib.hid (right_any [anchorN] _ 2 U 2 (by decide) (hv.below hv.2 hbU) HIN.out)
  rw [show (okL (2 : Int).toNat [anchorN]) = true from anchor_ok] at CR
  have h5 : Blk U (w.heap.size + 1 + 1 + 1 + 1 + 1) 37 #[.int .i64 1, .string ByteArray.empty, .slice none 0 0, .slice (some ⟨w.heap.size + 1 + 1, 0, none⟩) 2 2, .slice (some ⟨w.heap.size + 1 + 1 + 1 + 1, 0, none⟩) 1 1, .slice none 0 0, .slice none 0 0] := by rw [hU, hU0]; exact (Blk.at (by simp)).alloc _
  have HK0 := Lib.hid h0
  have HK1 := Lib.hid h1
  have HK2 := Lib.hid h2
  have HK3 := Lib.hid h3
  have HK4 := Lib.hid h4
  have HK5 := Lib.hid h5
  rw [hU0] at hU
  have HU := Lib.hid hU
  clear hU hU0 h0 h1 h2 h3 h4 h5 h6
  go_enter Tryd.func4, Tryd.ntmps4
  go_wp2_with fail
  rw [← HU.out]
  refine CR.out.mono ?_
  rintro e w1 ⟨rfl, hb1⟩
  have HK := Lib.hid (HK5.out.below hb1 HK5.out.lt)
  obtain ⟨W, hW⟩ : ∃ W, W = w1.alloc (.cells #[.int .i64 1, .string ByteArray.empty, .slice none 0 0, .slice (some ⟨w.heap.size + 1 + 1, 0, none⟩) 2 2, .slice (some ⟨w.heap.size + 1 + 1 + 1 + 1, 0, none⟩) 1 1, .slice none 0 0, .slice none 0 0] 37) := ⟨_, rfl⟩
  have hb2 : Below U.heap.size U W := by rw [hW]; exact hb1.alloc hb1.size _
  have h6 : Blk W w1.heap.size 37 #[.int .i64 1, .string ByteArray.empty, .slice none 0 0, .slice (some ⟨w.heap.size + 1 + 1, 0, none⟩) 2 2, .slice (some ⟨w.heap.size + 1 + 1 + 1 + 1, 0, none⟩) 1 1, .slice none 0 0, .slice none 0 0] := by rw [hW]; exact Blk.new _ _ _
  have hin := anchor_in (B := W.heap.size) (HK0.out.below hb2 HK0.out.lt) (HK1.out.below hb2 HK1.out.lt) (HK2.out.below hb2 HK2.out.lt) (HK3.out.below hb2 HK3.out.lt) (HK4.out.below hb2 HK4.out.lt) h6 (Nat.lt_of_lt_of_le HK0.out.lt hb2.size) (Nat.lt_of_lt_of_le HK1.out.lt hb2.size) (Nat.lt_of_lt_of_le HK2.out.lt hb2.size) (Nat.lt_of_lt_of_le HK3.out.lt hb2.size) (Nat.lt_of_lt_of_le HK4.out.lt hb2.size) h6.lt
  have hbW : Below w.heap.size w W := hbU.trans (hb2.mono hbU.size)
  have CS := Lib.hid (show_right 2 2 [anchorN] _ W (by have := hH.below hbW; exact ⟨this.1, Nat.lt_of_lt_of_le this.2 hbW.size⟩) hin anchor_ok (by rw [anchor_show]; decide))
  rw [anchor_show] at CS
  have HW := Lib.hid hW
  have HBW := Lib.hid hbW
  have hl5 := HK.out.lt
  have p0 := HK.out.cell 0
  have p1 := HK.out.cell 1
  have p2 := HK.out.cell 2
  have p3 := HK.out.cell 3
  have p4 := HK.out.cell 4
  have p5 := HK.out.cell 5
  have p6 := HK.out.cell 6
  have pl := HK.out.lt
  simp at p0 p1 p2 p3 p4 p5 p6
  clear hb1 hb2 h6 hin hbW hW
  go_wp2_with fail
  rw [← HW.out]
  refine CS.out.mono ?_
  rintro e w3 ⟨rfl, hb3⟩
  have HB3 := Lib.hid (HBW.out.trans (hb3.mono HBW.out.size))
  clear hb3
  have hq : ((S [101, 99, 104, 111, 32, 39, 97, 32, 98, 39, 32, 49, 62, 120, 10]).toList == [101, 99, 104, 111, 32, 39, 97, 32, 98, 39, 32, 49, 62, 120, 10]) = true := by decide +kernel
  go_wp2_with fail
  go_ret
  exact ⟨rfl, HB3.out⟩
end Go.Proofs.YtnackmnoldkihaaDoor
