/-
  The writer at every depth.
-/
import Derived.Test.YtnackmnoldkihaaGreatDoorQB9
set_option linter.unusedVariables false
set_option linter.unusedSimpArgs false
/-
  The writer beside boxes that are written; the walks of simple and of its closure.
-/
namespace Go.Proofs.YtnackmnoldkihaaGreatDoor
open Go.RowKit

/-- Boxes stay. -/
def Keeps (U U' : World) : Prop := ∀ g t cs, Blk U g t cs → t ≠ 5 → t ≠ 31 → t ≠ 84 → Blk U' g t cs
theorem Keeps.trans {U U' U'' : World} (h : Keeps U U') (h' : Keeps U' U'') : Keeps U U'' := fun g t cs hk h1 h2 h3 => h' g t cs (h g t cs hk h1 h2 h3) h1 h2 h3
theorem Keeps.of_below {U U' : World} (h : Below U.heap.size U U') : Keeps U U' := fun _ _ _ hk _ _ _ => hk.below h hk.lt
section
variable {V W X U U' W' : World} {B b : Nat} {dv : Value} {s : St}
theorem blk_ne {g : Nat} {t : TypeId} {cs : Array Value} {out : List UInt8} {ds : List DocV} (h : Wr U B b dv out ds) (hk : Blk U g t cs) (ht : t ≠ 84) : g ≠ b := fun e => by
  obtain ⟨v, p, h1⟩ := h.block
  subst e
  rw [show U.heap[g]? = some (.cells cs t (0, 0)) from hk] at h1
  injection h1 with h1
  injection h1 with _ h2 _
  exact ht h2
theorem Shown.keeps {out : List UInt8} {ds : List DocV} (hw : Wr U B b dv out ds) (h : Shown U B b dv s U') : Keeps U U' := fun g t cs hk h1 h2 h3 => by
  refine h.blk hk ?_ (row_ne hw.2.2.1 hk h2) h1
  exact blk_ne hw hk h3
theorem Shown.str2 (h : Shown V B b dv s W) (hb : Below W.heap.size W X) (t : ByteArray) (hlen : s.1.length + t.size ≤ lim) :
    Calls Tryz.prog 78 #[.pointer (some ⟨b, 0, none⟩), .string t] X fun e w' => e = .returned (.tuple #[.int .i64 t.size, .nilIface]) ∧ Shown V B b dv (putS s (L t)) w' ∧ Keeps X w' := by
  obtain ⟨dv1, ds1, h1, h2, h3⟩ := shown_st (h.later hb)
  have hst := Shown.start h1
  rw [h2] at hst
  exact (hst.str (Below.refl _ _) t hlen).mono fun e w' ⟨g1, g2⟩ => ⟨g1, g2.after h3, g2.keeps h1⟩
theorem Shown.byte2 (h : Shown V B b dv s W) (hb : Below W.heap.size W X) (c : UInt8) (hlen : s.1.length + 1 ≤ lim) :
    Calls Tryz.prog 81 #[.pointer (some ⟨b, 0, none⟩), .int .u8 ((c.toNat : Nat) : Int)] X fun e w' => e = .returned .nilIface ∧ Shown V B b dv (putS s [c]) w' ∧ Keeps X w' := by
  obtain ⟨dv1, ds1, h1, h2, h3⟩ := shown_st (h.later hb)
  have hst := Shown.start h1
  rw [h2] at hst
  exact (hst.byte (Below.refl _ _) c hlen).mono fun e w' ⟨g1, g2⟩ => ⟨g1, g2.after h3, g2.keeps h1⟩
theorem Shown.word2 {d : Nat} {ww : St → List Pt → St} {fw : List Pt → Bool} (hw : WordW d ww fw) (h : Shown V B b dv s W) (hb : Below W.heap.size W X) (hH : Hd V B) {l : List Pt} {v : Value} (hl : PtsIn V B d l v) (hf : fw l = true) (hlen : (ww s l).1.length ≤ lim) :
    Calls Tryz.prog 101 #[.pointer (some ⟨b, 0, none⟩), v] X fun e w' => e = .returned (.tuple #[]) ∧ Shown V B b dv (ww s l) w' ∧ Keeps X w' := by
  have hx := h.later hb
  obtain ⟨dv1, ds1, h1, h2, h3⟩ := shown_st hx
  rw [← h2] at hlen ⊢
  exact (hw X B b dv1 _ ds1 l v (hH.below hx.low) h1 (hl.below hx.low) hf hlen).mono fun e w' ⟨g1, g2⟩ => ⟨g1, g2.after h3, g2.keeps h1⟩
/-- A store into a box of the call's own. -/
theorem Shown.poke {g i : Nat} {t : TypeId} {cs : Array Value} (h : Shown V B b dv s W) (hk : Blk W g t cs) (hg : V.heap.size ≤ g) (hB : B ≤ V.heap.size) (h1 : t ≠ 5) (h2 : t ≠ 31) (h3 : t ≠ 84) (u : Value) : Shown V B b dv s (W.setCell ⟨g, i, none⟩ u) := by
  obtain ⟨dv1, ds1, e1, hw, hf⟩ := h
  have hgb : g ≠ b := blk_ne hw hk h3
  have hlow := (Below.refl B W).setCell (p := ⟨g, i, none⟩) (show B ≤ g by omega) u
  obtain ⟨hBb, ⟨v, p, k1, k2, k3⟩, k4, k5, k6⟩ := hw
  refine ⟨dv1, ds1, e1, ⟨hBb, ⟨v, p, (Below.heap_setCell W _ u b (Ne.symm hgb)).trans k1, k2, row_set k3 (row_ne k3 hk h1) i u⟩, row_set k4 (row_ne k4 hk h2) i u, fun r hr => ?_, k6⟩, ⟨hf.low.trans hlow, fun k o ho hb hd hu => ?_, hf.own⟩⟩
  · obtain ⟨d, hd⟩ := k5 r hr
    exact ⟨d, hd.keep fun _ _ _ _ hs => hs.below hlow⟩
  · rw [Below.heap_setCell W ⟨g, i, none⟩ u k (by have := (Array.getElem?_eq_some_iff.1 ho).1; simp; omega)]
    exact hf.kept k o ho hb hd hu
end

theorem enters_next (args : Array Value) (W : World) : (callFunc 100 args).run Tryz.prog W = .ok (Next.enter 100 args) W := by kernel_rfl

/-- The blank ahead, and its mark. -/
theorem next_any {V W X : World} {B b g0 g1 : Nat} {dv : Value} {s : St} {q : Bool} (h : Shown V B b dv s W) (hb : Below W.heap.size W X) (hk0 : Blk X g0 79 #[.pointer (some ⟨b, 0, none⟩)]) (hk1 : Blk X g1 4 #[.bool q]) (hg1 : V.heap.size ≤ g1) (hB : B ≤ V.heap.size) (hlen : (nextS s q).1.length ≤ lim) :
    Calls Tryz.prog 100 #[.pointer (some ⟨g1, 0, none⟩), .pointer (some ⟨g0, 0, none⟩)] X fun e w' => e = .returned (.tuple #[]) ∧ Shown V B b dv (nextS s q) w' ∧ Blk w' g1 4 #[.bool true] ∧ ∀ g t cs, g ≠ g1 → Blk X g t cs → t ≠ 5 → t ≠ 31 → t ≠ 84 → Blk w' g t cs := by
  have c0 := hk0.cell 0
  have c1 := hk1.cell 0
  have f1 := hk1.free 0
  simp at c0 c1
  have HS := Lib.hid (h.later hb)
  have HK0 := Lib.hid hk0
  have HK1 := Lib.hid hk1
  have HLEN := Lib.hid hlen
  clear h hb hk0 hk1 hlen
  cases q with
  | false =>
    go_enter Tryz.func100, Tryz.ntmps100
    go_wp2_with fail
    go_end0
    exact ⟨rfl, HS.out.poke HK1.out hg1 hB (by decide) (by decide) (by decide) _, HK1.out.put 0 _, fun g t cs hne hk _ _ _ => hk.far hne _⟩
  | true =>
    have CB := Lib.hid (HS.out.byte2 (Below.refl _ _) 32 (by have := HLEN.out; simpa [nextS, putS] using this))
    go_enter Tryz.func100, Tryz.ntmps100
    go_wp2_with fail
    refine CB.out.mono ?_
    rintro e w2 ⟨rfl, hs2, hkp⟩
    have HK2 := Lib.hid (hkp g1 _ _ HK1.out (by decide) (by decide) (by decide))
    have HS2 := Lib.hid hs2
    have HKP := Lib.hid hkp
    have c1' := HK2.out.cell 0
    have f1' := HK2.out.free 0
    simp at c1'
    clear hs2 hkp c0 c1 f1
    go_wp2_with fail
    go_end0
    exact ⟨rfl, HS2.out.poke HK2.out hg1 hB (by decide) (by decide) (by decide) _, HK2.out.put 0 _, fun g t cs hne hk h1 h2 h3 => (HKP.out g t cs hk h1 h2 h3).far hne _⟩

/-- The three boxes of simple. -/
def B3 (W U : World) (b : Nat) (cs : Array Value) (q : Bool) : Prop := Blk U W.heap.size 79 #[.pointer (some ⟨b, 0, none⟩)] ∧ Blk U (W.heap.size + 1) 38 cs ∧ Blk U (W.heap.size + 1 + 1) 4 #[.bool q]
theorem B3.keeps {W U U' : World} {b : Nat} {cs : Array Value} {q : Bool} (h : B3 W U b cs q) (hk : Keeps U U') : B3 W U' b cs q :=
  ⟨hk _ _ _ h.1 (by decide) (by decide) (by decide), hk _ _ _ h.2.1 (by decide) (by decide) (by decide), hk _ _ _ h.2.2 (by decide) (by decide) (by decide)⟩
theorem B3.next {W U U' : World} {b : Nat} {cs : Array Value} {q : Bool} (h : B3 W U b cs q) (h1 : Blk U' (W.heap.size + 1 + 1) 4 #[.bool true]) (hk : ∀ g t cs, g ≠ W.heap.size + 1 + 1 → Blk U g t cs → t ≠ 5 → t ≠ 31 → t ≠ 84 → Blk U' g t cs) : B3 W U' b cs true :=
  ⟨hk _ _ _ (by omega) h.1 (by decide) (by decide) (by decide), hk _ _ _ (by omega) h.2.1 (by decide) (by decide) (by decide), h1⟩

set_option maxHeartbeats 4000000 in
set_option maxRecDepth 100000 in
theorem wsimple_any {d : Nat} {wd : St → List Pt → St} {fw : List Pt → Bool} (hwd : WordW d wd fw) (hg : Grow2 wd) {W : World} {B b : Nat} {dv : Value} {out : List UInt8} {ds : List DocV} (x : Nd) (c : List Value) (h : Wr W B b dv out ds) (hH : Hd W B) (hc : NdC W B d x c) (hfa : x.assigns.all (fun a => fw a.word) = true) (hfw : x.words.all fw = true) (hfr : x.redirs.all (redirF fw) = true) (hlen : (simpleS wd (stOf out ds) x).1.length ≤ lim) :
    Calls Tryz.prog 76 #[.pointer (some ⟨b, 0, none⟩), .agg c.toArray] W fun e w' => e = .returned (.tuple #[]) ∧ Shown W B b dv (simpleS wd (stOf out ds) x) w' := by
  obtain ⟨a1, c1, a2, c2, a3, c3, a4, c4, a5, c5, rfl, hxz, ⟨hn1, hn2, hn3, hn4, hn5⟩, hA, hWd, hRd, _⟩ := hc.open
  obtain ⟨n1, hl1⟩ : ∃ n, x.assigns.length = n := ⟨_, rfl⟩
  obtain ⟨n2, hl2⟩ : ∃ n, x.words.length = n := ⟨_, rfl⟩
  obtain ⟨n3, hl3⟩ : ∃ n, x.redirs.length = n := ⟨_, rfl⟩
  obtain ⟨n4, hl4⟩ : ∃ n, x.lists.length = n := ⟨_, rfl⟩
  obtain ⟨n5, hl5⟩ : ∃ n, x.arms.length = n := ⟨_, rfl⟩
  rw [hl1] at hn1 hA
  rw [hl2] at hn2 hWd
  rw [hl3] at hn3 hRd
  rw [hl1, hl2, hl3, hl4, hl5]
  have HA := Lib.hid hA
  have HWS := Lib.hid hWd
  have HRS := Lib.hid hRd
  have HH := Lib.hid hH
  have HWD := Lib.hid hwd
  have HG := Lib.hid hg
  have HW := Lib.hid h
  have HFA := Lib.hid (List.all_eq_true.1 hfa)
  have HFW := Lib.hid (List.all_eq_true.1 hfw)
  have HFR := Lib.hid hfr
  have N1 := Lib.hid hl1
  have N2 := Lib.hid hl2
  have N3 := Lib.hid hl3
  obtain ⟨s0, hs0⟩ : ∃ s, stOf out ds = s := ⟨_, rfl⟩
  rw [hs0] at hlen ⊢
  have HS0 := Lib.hid hs0
  obtain ⟨sa, hsa⟩ : ∃ s, assignsS wd s0 x.assigns false = s := ⟨_, rfl⟩
  obtain ⟨sw, hsw⟩ : ∃ s, wordsS wd sa x.words (!x.assigns.isEmpty) = s := ⟨_, rfl⟩
  have hr : simpleS wd s0 x = redirsS wd sw x.redirs (!(x.assigns.isEmpty && x.words.isEmpty)) := by rw [simpleS, hsa, hsw]
  obtain ⟨r, hr0⟩ : ∃ r, simpleS wd s0 x = r := ⟨_, rfl⟩
  rw [hr0] at hlen hr ⊢
  have HR := Lib.hid hr
  have HLEN := Lib.hid hlen
  have HLW : Hid (sw.1.length ≤ lim) := Lib.hid (Nat.le_trans (by rw [hr]; exact redirsS_grow hg _ _ _) hlen)
  have HLA : Hid (sa.1.length ≤ lim) := Lib.hid (Nat.le_trans (by rw [← hsw]; exact wordsS_grow hg _ _ _) HLW.out)
  have HLAT : Hid (∀ k, (assignsS wd s0 (x.assigns.take k) false).1.length ≤ lim) := Lib.hid fun k => Nat.le_trans (assigns_take_le hg _ _ _ k) (by rw [hsa]; exact HLA.out)
  have HLWT : Hid (∀ k, (wordsS wd sa (x.words.take k) (!x.assigns.isEmpty)).1.length ≤ lim) := Lib.hid fun k => Nat.le_trans (words_take_le hg _ _ _ k) (by rw [hsw]; exact HLW.out)
  have HSA := Lib.hid hsa
  have HSW := Lib.hid hsw
  have hle := h.le
  clear hl1 hl2 hl3 hl4 hl5 hA hWd hRd hH hwd hg h hfa hfw hfr hlen hc hs0 hsa hsw hr hr0
  obtain ⟨nc, hnc⟩ : ∃ cs : Array Value, cs = #[.int .i64 x.kind, .string x.name, .slice a1 n1 c1, .slice a2 n2 c2, .slice a3 n3 c3, .slice a4 n4 c4, .slice a5 n5 c5] := ⟨_, rfl⟩
  have HNC := Lib.hid hnc
  have HB3 : Hid (B3 W (((W.alloc (.cells #[.pointer (some ⟨b, 0, none⟩)] 79)).alloc (.cells nc 38)).alloc (.cells #[.bool false] 4)) b nc false) := Lib.hid ⟨((Blk.at rfl).alloc _).alloc _, (Blk.at (by simp)).alloc _, Blk.at (by simp)⟩
  have HBL : Hid (Below W.heap.size W (((W.alloc (.cells #[.pointer (some ⟨b, 0, none⟩)] 79)).alloc (.cells nc 38)).alloc (.cells #[.bool false] 4))) := Lib.hid (by repeat' (first | (with_reducible assumption) | (with_reducible exact Below.refl _ _) | (with_reducible refine below_drewN ?_ _) | (with_reducible refine below_bytes ?_ ?_ _) | (with_reducible refine Below.alloc ?_ ?_ _) | (with_reducible refine Below.drew ?_) | (with_reducible refine Below.setCell ?_ ?_ _) | go_size))
  obtain ⟨U, hU⟩ : ∃ U, U = (((W.alloc (.cells #[.pointer (some ⟨b, 0, none⟩)] 79)).alloc (.cells nc 38)).alloc (.cells #[.bool false] 4)) := ⟨_, rfl⟩
  rw [← hU] at HB3 HBL
  rw [hnc] at hU
  have HUE := Lib.hid hU
  clear hU hnc
  have HSU : Hid (Shown W B b dv s0 U) := Lib.hid (by have := (Shown.start HW.out).later HBL.out; rwa [HS0.out] at this)
  go_enter Tryz.func76, Tryz.ntmps76
  go_upto_region 3 with fail
  rw [← HUE.out]
  have HB := HB3
  have HK0 := Lib.hid (HB.out.1)
  have HK1 := Lib.hid (HB.out.2.1)
  rw [HNC.out] at HK1
  have HK2 := Lib.hid (HB.out.2.2)
  have b0 := HK0.out.cell 0
  have m0 := HK2.out.cell 0
  have m1 := HK2.out.lt
  simp at b0 m0
  have y0 := HK1.out.cell 0
  have y1 := HK1.out.cell 1
  have y2 := HK1.out.cell 2
  have y3 := HK1.out.cell 3
  have y4 := HK1.out.cell 4
  have y5 := HK1.out.cell 5
  have y6 := HK1.out.cell 6
  have yl := HK1.out.lt
  simp at y0 y1 y2 y3 y4 y5 y6
  go_wp2_with fail
  clear b0 m0 m1 y0 y1 y2 y3 y4 y5 y6 yl HK0 HK1 HK2 HB
  go_loopw [14] (fun i U => ∃ (k : Nat) (q : Bool), k ≤ n1 ∧ i = .int .i64 k ∧ q = decide (0 < k) ∧ Shown W B b dv (assignsS wd s0 (x.assigns.take k) false) U ∧ B3 W U b nc q) (fun i _ => n1 - (intOf i).toNat)
  case atStart => exact ⟨0, false, Nat.zero_le _, rfl, rfl, HSU.out, HB3.out⟩
  case round =>
    obtain ⟨k, q, hk, rfl, hq, hsh, hb3⟩ := hrel
    have HQ := Lib.hid hq
    have HB := Lib.hid hb3
    obtain ⟨s, hs⟩ : ∃ s, assignsS wd s0 (x.assigns.take k) false = s := ⟨_, rfl⟩
    rw [hs] at hsh
    have HS := Lib.hid hs
    have HSH := Lib.hid hsh
    have hlow := hsh.low
    have hleW := hsh.le
    clear hsh hb3 hq hs
    have HK0 := Lib.hid (HB.out.1)
    have HK1 := Lib.hid (HB.out.2.1)
    rw [HNC.out] at HK1
    have HK2 := Lib.hid (HB.out.2.2)
    have b0 := HK0.out.cell 0
    have m0 := HK2.out.cell 0
    have m1 := HK2.out.lt
    simp at b0 m0
    have y0 := HK1.out.cell 0
    have y1 := HK1.out.cell 1
    have y2 := HK1.out.cell 2
    have y3 := HK1.out.cell 3
    have y4 := HK1.out.cell 4
    have y5 := HK1.out.cell 5
    have y6 := HK1.out.cell 6
    have yl := HK1.out.lt
    simp at y0 y1 y2 y3 y4 y5 y6
    by_cases hlt : k < n1
    · obtain ⟨y, hy⟩ : ∃ y, x.assigns[k]? = .some y := ⟨_, List.getElem?_eq_getElem (by rw [N1.out]; exact hlt)⟩
      obtain ⟨b1, o, c, hi, hbB, hce, hC, _⟩ := HA.out.at 33 94 Tryz.underlying33 (by kernel_rfl) hy
      have HSX : Hid (assignsS wd s0 (x.assigns.take (k + 1)) false = wd (putS (nextS s q) (L y.name ++ [61])) y.word) := Lib.hid (by
        rw [take_snoc' hy, assigns_snoc, HS.out, HQ.out, take_empty (by rw [N1.out]; exact hlt), Bool.false_or])
      have HLX := Lib.hid (HLAT.out (k + 1))
      rw [HSX.out] at HLX
      have HZ2 : Hid ((putS (nextS s q) (L y.name ++ [61])).1.length ≤ lim) := Lib.hid (Nat.le_trans (HG.out _ _) HLX.out)
      have HZ1 : Hid ((nextS s q).1.length ≤ lim) := Lib.hid (Nat.le_trans (putS_grow _ _) HZ2.out)
      have HFY : Hid (fw y.word = true) := Lib.hid (HFA.out y (List.mem_of_getElem? hy))
      obtain ⟨a6, c6, rfl, hyz, hyl, hyp⟩ := hC.open
      have HYP := Lib.hid hyp
      have e0 := (hlow.cell hbB).trans (hce 0 _ rfl)
      have e1 := (hlow.cell hbB).trans (hce 1 _ rfl)
      have hbB' := Nat.lt_of_lt_of_le hbB hleW
      rw [Nat.add_zero] at e0
      obtain ⟨X, hX⟩ : ∃ X, X = wr.alloc (.cells #[.string y.name, .slice a6 y.word.length c6] 94) := ⟨_, rfl⟩
      have HBX : Hid (Below wr.heap.size wr X) := Lib.hid (by rw [hX]; exact (Below.refl _ _).alloc (Nat.le_refl _) _)
      have HKX : Hid (Blk X wr.heap.size 94 #[.string y.name, .slice a6 y.word.length c6]) := Lib.hid (by rw [hX]; exact Blk.new _ _ _)
      have HXE := Lib.hid hX
      have HB3X := Lib.hid (HB.out.keeps (Keeps.of_below HBX.out))
      have hgne : wr.heap.size ≠ W.heap.size + 1 + 1 := by omega
      have CN := Lib.hid (next_any HSH.out HBX.out HB3X.out.1 HB3X.out.2.2 (by omega) hle HZ1.out)
      clear hy hce hC hX hyp
      go_wp2_with fail
      rw [← HXE.out]
      refine CN.out.mono ?_
      rintro e w2 ⟨rfl, hs2, hm2, hk2⟩
      have HB2 := Lib.hid (HB3X.out.next hm2 hk2)
      have HY2 := Lib.hid (hk2 _ _ _ hgne HKX.out (by decide) (by decide) (by decide))
      have C2 : Hid (∀ X2, Below w2.heap.size w2 X2 → Calls Tryz.prog 78 #[.pointer (some ⟨b, 0, none⟩), .string (y.name ++ ⟨#[61]⟩)] X2 fun e w' => e = .returned (.tuple #[.int .i64 (y.name.size + 1 : Nat), .nilIface]) ∧ Shown W B b dv (putS (nextS s q) (L y.name ++ [61])) w' ∧ Keeps X2 w') := Lib.hid fun X2 hX2 => by
        have h1 := hs2.str2 hX2 (y.name ++ ⟨#[61]⟩) (by have := HZ2.out; simp [putS, L_size] at this ⊢; omega)
        have e : L (y.name ++ ⟨#[61]⟩) = L y.name ++ [61] := by simp [L_append]
        have e2 : (y.name ++ (⟨#[61]⟩ : ByteArray)).size = y.name.size + 1 := by simp
        rw [e, e2] at h1
        exact h1
      clear hs2 hm2 hk2 b0 m0 m1 y0 y1 y2 y3 y4 y5 y6 yl HK0 HK1 HK2 CN
      have HB := HB2
      have HK0 := Lib.hid (HB.out.1)
      have HK1 := Lib.hid (HB.out.2.1)
      rw [HNC.out] at HK1
      have HK2 := Lib.hid (HB.out.2.2)
      have b0 := HK0.out.cell 0
      have m0 := HK2.out.cell 0
      have m1 := HK2.out.lt
      simp at b0 m0
      have y0 := HK1.out.cell 0
      have y1 := HK1.out.cell 1
      have y2 := HK1.out.cell 2
      have y3 := HK1.out.cell 3
      have y4 := HK1.out.cell 4
      have y5 := HK1.out.cell 5
      have y6 := HK1.out.cell 6
      have yl := HK1.out.lt
      simp at y0 y1 y2 y3 y4 y5 y6
      have z0 := HY2.out.cell 0
      have z1 := HY2.out.cell 1
      have zl := HY2.out.lt
      simp at z0 z1
      have k1 : ∀ V : World, (Op.stringOp .add y.name (⟨#[61]⟩ : ByteArray)).run Tryz.prog V = .ok (.string (y.name ++ (⟨#[61]⟩ : ByteArray))) V := fun V => run_string_add_sum V _ _ (by simp; omega)
      go_wp2_with fail
      go_still_tail 6, (by kernel_rfl)
      go_wp2_with fail
      refine (C2.out _ (by repeat' (first | (with_reducible assumption) | (with_reducible exact Below.refl _ _) | (with_reducible refine below_drewN ?_ _) | (with_reducible refine below_bytes ?_ ?_ _) | (with_reducible refine Below.alloc ?_ ?_ _) | (with_reducible refine Below.drew ?_) | (with_reducible refine Below.setCell ?_ ?_ _) | go_size))).mono ?_
      rintro e w3 ⟨rfl, hs3, hk3⟩
      have HB3' := Lib.hid (HB2.out.keeps (Keeps.trans (Keeps.of_below (by repeat' (first | (with_reducible assumption) | (with_reducible exact Below.refl _ _) | (with_reducible refine below_drewN ?_ _) | (with_reducible refine below_bytes ?_ ?_ _) | (with_reducible refine Below.alloc ?_ ?_ _) | (with_reducible refine Below.drew ?_) | (with_reducible refine Below.setCell ?_ ?_ _) | go_size))) hk3))
      have HY3 := Lib.hid ((Keeps.trans (Keeps.of_below (by repeat' (first | (with_reducible assumption) | (with_reducible exact Below.refl _ _) | (with_reducible refine below_drewN ?_ _) | (with_reducible refine below_bytes ?_ ?_ _) | (with_reducible refine Below.alloc ?_ ?_ _) | (with_reducible refine Below.drew ?_) | (with_reducible refine Below.setCell ?_ ?_ _) | go_size))) hk3) _ _ _ HY2.out (by decide) (by decide) (by decide))
      have C3 := Lib.hid (hs3.word2 HWD.out (Below.refl _ _) HH.out HYP.out HFY.out HLX.out)
      clear hs3 hk3 b0 m0 m1 y0 y1 y2 y3 y4 y5 y6 yl z0 z1 zl HK0 HK1 HK2 HB C2
      have HB := HB3'
      have HK0 := Lib.hid (HB.out.1)
      have HK1 := Lib.hid (HB.out.2.1)
      rw [HNC.out] at HK1
      have HK2 := Lib.hid (HB.out.2.2)
      have b0 := HK0.out.cell 0
      have m0 := HK2.out.cell 0
      have m1 := HK2.out.lt
      simp at b0 m0
      have y0 := HK1.out.cell 0
      have y1 := HK1.out.cell 1
      have y2 := HK1.out.cell 2
      have y3 := HK1.out.cell 3
      have y4 := HK1.out.cell 4
      have y5 := HK1.out.cell 5
      have y6 := HK1.out.cell 6
      have yl := HK1.out.lt
      simp at y0 y1 y2 y3 y4 y5 y6
      have z1 := HY3.out.cell 1
      have zl := HY3.out.lt
      simp at z1
      go_wp2_with fail
      refine C3.out.mono ?_
      rintro e w4 ⟨rfl, hs4, hk4⟩
      have HB4 := Lib.hid (HB3'.out.keeps hk4)
      have HS4 := Lib.hid hs4
      clear hs4 hk4
      go_wp2_with fail
      go_roundw
      case rel => exact ⟨k + 1, true, by omega, by go_num, by simp, by rw [HSX.out]; exact HS4.out, HB4.out⟩
      case measure => simp [intOf]; omega
    · have HTK : Hid (x.assigns.take k = x.assigns) := Lib.hid (List.take_of_length_le (by rw [N1.out]; omega))
      have HSE : Hid (s = sa) := Lib.hid (by rw [← HS.out, HTK.out]; exact HSA.out)
      have HQ1 : Hid (q = !x.assigns.isEmpty) := Lib.hid (by rw [HQ.out, nil_of N1.out]; by_cases h0 : n1 = 0 <;> simp [h0] <;> omega)
      rw [HSE.out] at HSH
      go_wp2_with fail
      clear b0 m0 m1 y0 y1 y2 y3 y4 y5 y6 yl HK0 HK1 HK2 hlow hleW
      go_loopw [35] (fun i U => ∃ (j : Nat) (q : Bool), j ≤ n2 ∧ i = .int .i64 j ∧ q = (!x.assigns.isEmpty || decide (0 < j)) ∧ Shown W B b dv (wordsS wd sa (x.words.take j) (!x.assigns.isEmpty)) U ∧ B3 W U b nc q) (fun i _ => n2 - (intOf i).toNat)
      case atStart => exact ⟨0, q, Nat.zero_le _, rfl, by rw [HQ1.out]; simp, HSH.out, HB.out⟩
      case round =>
        clear HB HSH HQ HQ1 HS HSE HTK
        obtain ⟨j, q2, hj, rfl, hq, hsh, hb3⟩ := hrel
        have HQ := Lib.hid hq
        have HB := Lib.hid hb3
        obtain ⟨s2, hs⟩ : ∃ s, wordsS wd sa (x.words.take j) (!x.assigns.isEmpty) = s := ⟨_, rfl⟩
        rw [hs] at hsh
        have HS := Lib.hid hs
        have HSH := Lib.hid hsh
        have hlow := hsh.low
        have hleW := hsh.le
        clear hsh hb3 hq hs
        have HK0 := Lib.hid (HB.out.1)
        have HK1 := Lib.hid (HB.out.2.1)
        rw [HNC.out] at HK1
        have HK2 := Lib.hid (HB.out.2.2)
        have b0 := HK0.out.cell 0
        have m0 := HK2.out.cell 0
        have m1 := HK2.out.lt
        simp at b0 m0
        have y0 := HK1.out.cell 0
        have y1 := HK1.out.cell 1
        have y2 := HK1.out.cell 2
        have y3 := HK1.out.cell 3
        have y4 := HK1.out.cell 4
        have y5 := HK1.out.cell 5
        have y6 := HK1.out.cell 6
        have yl := HK1.out.lt
        simp at y0 y1 y2 y3 y4 y5 y6
        by_cases hlt2 : j < n2
        · obtain ⟨y, hy⟩ : ∃ y, x.words[j]? = .some y := ⟨_, List.getElem?_eq_getElem (by rw [N2.out]; exact hlt2)⟩
          obtain ⟨b1, o, c, hi, hbB, hce, ⟨yv, rfl, hyp⟩, _⟩ := HWS.out.at 34 29 Tryz.underlying34 (by kernel_rfl) hy
          obtain ⟨a6, c6, rfl, _⟩ := hyp.shape
          have HSX : Hid (wordsS wd sa (x.words.take (j + 1)) (!x.assigns.isEmpty) = wd (nextS s2 q2) y) := Lib.hid (by
            rw [take_snoc' hy, words_snoc, HS.out, HQ.out, take_empty (by rw [N2.out]; exact hlt2)])
          have HLX := Lib.hid (HLWT.out (j + 1))
          rw [HSX.out] at HLX
          have HZ1 : Hid ((nextS s2 q2).1.length ≤ lim) := Lib.hid (Nat.le_trans (HG.out _ _) HLX.out)
          have HFY : Hid (fw y = true) := Lib.hid (HFW.out y (List.mem_of_getElem? hy))
          have HYP := Lib.hid hyp
          have e0 := (hlow.cell hbB).trans (hce 0 _ rfl)
          have hbB' := Nat.lt_of_lt_of_le hbB hleW
          rw [Nat.add_zero] at e0
          have CN := Lib.hid (next_any HSH.out (Below.refl _ _) HB.out.1 HB.out.2.2 (by omega) hle HZ1.out)
          clear hy hce hyp
          go_wp2_with fail
          refine CN.out.mono ?_
          rintro e w2 ⟨rfl, hs2, hm2, hk2⟩
          have HB2 := Lib.hid (HB.out.next hm2 hk2)
          have C3 := Lib.hid (hs2.word2 HWD.out (Below.refl _ _) HH.out HYP.out HFY.out HLX.out)
          clear hs2 hm2 hk2 b0 m0 m1 y0 y1 y2 y3 y4 y5 y6 yl HK0 HK1 HK2 CN HB
          have HB := HB2
          have HK0 := Lib.hid (HB.out.1)
          have HK1 := Lib.hid (HB.out.2.1)
          rw [HNC.out] at HK1
          have HK2 := Lib.hid (HB.out.2.2)
          have b0 := HK0.out.cell 0
          have m0 := HK2.out.cell 0
          have m1 := HK2.out.lt
          simp at b0 m0
          have y0 := HK1.out.cell 0
          have y1 := HK1.out.cell 1
          have y2 := HK1.out.cell 2
          have y3 := HK1.out.cell 3
          have y4 := HK1.out.cell 4
          have y5 := HK1.out.cell 5
          have y6 := HK1.out.cell 6
          have yl := HK1.out.lt
          simp at y0 y1 y2 y3 y4 y5 y6
          go_wp2_with fail
          refine C3.out.mono ?_
          rintro e w4 ⟨rfl, hs4, hk4⟩
          have HB4 := Lib.hid (HB2.out.keeps hk4)
          have HS4 := Lib.hid hs4
          clear hs4 hk4
          go_wp2_with fail
          go_roundw
          case rel => exact ⟨j + 1, true, by omega, by go_num, by simp, by rw [HSX.out]; exact HS4.out, HB4.out⟩
          case measure => simp [intOf]; omega
        · have HTK : Hid (x.words.take j = x.words) := Lib.hid (List.take_of_length_le (by rw [N2.out]; omega))
          have HSE : Hid (s2 = sw) := Lib.hid (by rw [← HS.out, HTK.out]; exact HSW.out)
          have HQ1 : Hid (q2 = !(x.assigns.isEmpty && x.words.isEmpty)) := Lib.hid (by
            rw [HQ.out, nil_of N2.out]
            cases x.assigns.isEmpty
            · rfl
            · by_cases h0 : n2 = 0 <;> simp [h0] <;> omega)
          rw [HSE.out] at HSH
          have CR : Hid (Calls Tryz.prog 80 #[.pointer (some ⟨b, 0, none⟩), .slice a3 n3 c3, .bool q2] wr fun e w' => e = .returned (.tuple #[]) ∧ Shown W B b dv r w') := Lib.hid (by
            obtain ⟨dv1, ds1, h1, h2, h3⟩ := shown_st HSH.out
            have hlow1 := HSH.out.low
            have h4 := wredirs_any HWD.out HG.out h1 (HH.out.below hlow1) (HRS.out.imp (fun xs hs => hs.below hlow1) fun _ _ _ h => h.keep fun _ _ _ _ hs => hs.below hlow1) HFR.out q2 (by rw [h2, HQ1.out, ← HR.out]; exact HLEN.out)
            rw [h2, HQ1.out, ← HR.out] at h4
            rw [HQ1.out]
            exact h4.mono fun e w' ⟨g1, g2⟩ => ⟨g1, g2.after h3⟩)
          go_wp2_with fail
          refine CR.out.mono ?_
          rintro e w5 ⟨rfl, hs5⟩
          have HS5 := Lib.hid hs5
          clear hs5
          go_wp2_with fail
          go_end0
          exact ⟨rfl, HS5.out⟩
end Go.Proofs.YtnackmnoldkihaaGreatDoor
/-
  The walks of the writer's join and arms.
-/
namespace Go.Proofs.YtnackmnoldkihaaGreatDoor
open Go.RowKit

/-- The first command of a list. -/
theorem NdsIn.head {w : World} {B d : Nat} {l : List Nd} {v : Value} (h : NdsIn w B d l v) (h0 : 0 < l.length) : ∃ x r d' b o c, l = x :: r ∧ d = d' + 1 ∧ (∀ w' : World, (Instr.indexAt 22 v (.int .i64 0)).run Tryz.prog w' = .ok (.pointer (some ⟨b, o, none⟩)) w') ∧ b < B ∧ CellsAt w b o c ∧ NdC w B d' x c := by
  cases d with
  | zero => rw [NdsIn] at h; obtain rfl := h.zero; simp at h0
  | succ d =>
    rw [NdsIn.succ] at h
    cases l with
    | nil => simp at h0
    | cons x r =>
      obtain ⟨b, o, c, hi, hb, hc, hC, _⟩ := h.at 22 38 Tryz.underlying22 (by kernel_rfl) (k := 0) (x := x) rfl
      exact ⟨x, r, d, b, o, c, rfl, rfl, fun w' => hi w', hb, hc, hC⟩

set_option maxHeartbeats 2000000 in
set_option maxRecDepth 100000 in
theorem wjoin_any {D : Nat} {wn : St → Nd → St} {fn : Nd → Bool} (hwn : ∀ d, D = d + 1 → NodeW d wn fn) (hg : Grow2 wn) {V W X : World} {B b : Nat} {dv : Value} {s0 : St} (h : Shown V B b dv s0 W) (hb : Below W.heap.size W X) (hH : Hd V B) (sign : ByteArray) (l : List (List Nd)) (v : Value) (hl : LssIn V B D l v) (hf : l.all (fun y => y.all fn) = true) (hf2 : l.all (fun y => !y.isEmpty) = true) (hlen : (joinS wn (L sign) s0 l false).1.length ≤ lim) :
    Calls Tryz.prog 77 #[.pointer (some ⟨b, 0, none⟩), .string sign, v] X fun e w' => e = .returned (.tuple #[]) ∧ Shown V B b dv (joinS wn (L sign) s0 l false) w' := by
  obtain ⟨a, cap, rfl, hz⟩ := hl.len
  obtain ⟨n, hn⟩ : ∃ n, l.length = n := ⟨_, rfl⟩
  rw [hn] at hl hz ⊢
  have HSX := Lib.hid (h.later hb)
  have HL := Lib.hid hl
  have HN := Lib.hid hn
  have HH := Lib.hid hH
  have HWN := Lib.hid hwn
  have HG := Lib.hid hg
  have HFA := Lib.hid (List.all_eq_true.1 hf)
  have HFB := Lib.hid (List.all_eq_true.1 hf2)
  have HLEN : Hid (∀ k, (joinS wn (L sign) s0 (l.take k) false).1.length ≤ lim) := Lib.hid fun k => Nat.le_trans (join_take_le hg (L sign) l _ false k) hlen
  clear hl hn hH hwn hg h hb hf hf2 hlen
  go_enter Tryz.func77, Tryz.ntmps77
  go_wp2_with fail
  go_loopw [10] (fun i U => ∃ k : Nat, k ≤ n ∧ i = .int .i64 k ∧ Shown V B b dv (joinS wn (L sign) s0 (l.take k) false) U) (fun i _ => n - (intOf i).toNat)
  case atStart => exact ⟨0, Nat.zero_le _, rfl, HSX.out⟩
  case round =>
    obtain ⟨k, hk, rfl, hsh⟩ := hrel
    obtain ⟨s, hs⟩ : ∃ s, joinS wn (L sign) s0 (l.take k) false = s := ⟨_, rfl⟩
    rw [hs] at hsh
    have HS := Lib.hid hs
    have HSH := Lib.hid hsh
    have hlow := hsh.low
    have hleW := hsh.le
    clear hsh hs
    by_cases hlt : k < n
    · obtain ⟨y, hy⟩ : ∃ y, l[k]? = .some y := ⟨_, List.getElem?_eq_getElem (by rw [HN.out]; exact hlt)⟩
      obtain ⟨b1, o, c, hi, hbB, hce, ⟨yv, rfl, hyp⟩, _⟩ := HL.out.at 35 22 Tryz.underlying35 (by kernel_rfl) hy
      have hm := List.mem_of_getElem? hy
      have hye := HFB.out y hm
      obtain ⟨x, r, d', b2, o2, c, hyx, hdd, hi2, hbB2, hce2, hC⟩ := hyp.head (by cases y with | nil => simp at hye | cons => simp)
      have HWN2 := Lib.hid (HWN.out d' hdd)
      obtain ⟨a6, c6, rfl, _⟩ := hyp.shape
      have HSX1 : Hid (joinS wn (L sign) s0 (l.take (k + 1)) false = wn (bif decide (0 < k) then putS s (L sign) else s) x) := Lib.hid (by
        rw [take_snoc' hy, join_snoc, HS.out, take_empty (by rw [HN.out]; exact hlt), Bool.false_or, hyx, oneS])
      have HLX := Lib.hid (HLEN.out (k + 1))
      rw [HSX1.out] at HLX
      have HFY : Hid (fn x = true) := Lib.hid (by
        have h1 := HFA.out y hm
        rw [hyx] at h1
        exact List.all_eq_true.1 h1 x (by simp))
      have HC := Lib.hid hC
      obtain ⟨a1, c1, a2, c2, a3, c3, a4, c4, a5, c5, rfl, _⟩ := hC.open
      have e0 := (hlow.cell hbB).trans (hce 0 _ rfl)
      have f0 := (hlow.cell hbB2).trans (hce2 0 _ rfl)
      have f1 := (hlow.cell hbB2).trans (hce2 1 _ rfl)
      have f2 := (hlow.cell hbB2).trans (hce2 2 _ rfl)
      have f3 := (hlow.cell hbB2).trans (hce2 3 _ rfl)
      have f4 := (hlow.cell hbB2).trans (hce2 4 _ rfl)
      have f5 := (hlow.cell hbB2).trans (hce2 5 _ rfl)
      have f6 := (hlow.cell hbB2).trans (hce2 6 _ rfl)
      rw [Nat.add_zero] at e0 f0
      obtain ⟨ny, hny⟩ : ∃ n, y.length = n := ⟨_, rfl⟩
      rw [hny] at e0 hi2
      have HCE : Hid (∀ U, Below B V U → U.cell? ⟨b2, o2, none⟩ = some (.int .i64 x.kind) ∧ U.cell? ⟨b2, o2 + 1, none⟩ = some (.string x.name) ∧ U.cell? ⟨b2, o2 + 2, none⟩ = some (.slice a1 x.assigns.length c1) ∧ U.cell? ⟨b2, o2 + 3, none⟩ = some (.slice a2 x.words.length c2) ∧ U.cell? ⟨b2, o2 + 4, none⟩ = some (.slice a3 x.redirs.length c3) ∧ U.cell? ⟨b2, o2 + 5, none⟩ = some (.slice a4 x.lists.length c4) ∧ U.cell? ⟨b2, o2 + 6, none⟩ = some (.slice a5 x.arms.length c5)) := Lib.hid fun U hU =>
        ⟨(hU.cell hbB2).trans (hce2 0 _ rfl), (hU.cell hbB2).trans (hce2 1 _ rfl), (hU.cell hbB2).trans (hce2 2 _ rfl), (hU.cell hbB2).trans (hce2 3 _ rfl), (hU.cell hbB2).trans (hce2 4 _ rfl), (hU.cell hbB2).trans (hce2 5 _ rfl), (hU.cell hbB2).trans (hce2 6 _ rfl)⟩
      clear hy hce hC hyp hce2 hyx hye hm hny hdd
      by_cases h0 : k = 0
      · subst h0
        have hi0 : ∀ w' : World, (Instr.indexAt 35 (.slice a n cap) (.int .i64 0)).run Tryz.prog w' = .ok (.pointer (some ⟨b1, o, none⟩)) w' := fun w' => hi w'
        have HLX2 := HLX
        have CN := Lib.hid (HSH.out.node HWN2.out (Below.refl _ _) HH.out HC.out HFY.out (by have := HLX2.out; simpa using this))
        go_wp2_with fail
        refine CN.out.mono ?_
        rintro e w2 ⟨rfl, hs2⟩
        have HS2 := Lib.hid hs2
        clear hs2
        go_wp2_with fail
        go_roundw
        case rel => exact ⟨0 + 1, by omega, by go_num, by rw [HSX1.out]; simpa using HS2.out⟩
        case measure => simp [intOf]; omega
      · have hk0 : decide ((0 : Int) < (k : Int)) = true := by simp; omega
        have hk1 : decide (0 < k) = true := by simp; omega
        rw [hk1] at HLX HSX1
        have CS := Lib.hid (HSH.out.str (Below.refl _ _) sign (by
          have h1 := Nat.le_trans (HG.out (putS s (L sign)) x) HLX.out
          simpa [putS, L_size] using h1))
        go_wp2_with fail
        refine CS.out.mono ?_
        rintro e w2 ⟨rfl, hs2⟩
        obtain ⟨g0, g1, g2, g3, g4, g5, g6⟩ := HCE.out w2 hs2.low
        have CN := Lib.hid (hs2.node HWN2.out (Below.refl _ _) HH.out HC.out HFY.out HLX.out)
        clear hs2
        go_wp2_with fail
        refine CN.out.mono ?_
        rintro e w3 ⟨rfl, hs3⟩
        have HS3 := Lib.hid hs3
        clear hs3
        go_wp2_with fail
        go_roundw
        case rel => exact ⟨k + 1, by omega, by go_num, by rw [HSX1.out]; exact HS3.out⟩
        case measure => simp [intOf]; omega
    · have HTK : Hid (l.take k = l) := Lib.hid (List.take_of_length_le (by rw [HN.out]; omega))
      go_wp2_with fail
      go_end0
      refine ⟨rfl, ?_⟩
      have h1 := HSH.out
      rwa [← HS.out, HTK.out] at h1
end Go.Proofs.YtnackmnoldkihaaGreatDoor
/-
  The walk of the writer's arms.
-/
namespace Go.Proofs.YtnackmnoldkihaaGreatDoor
open Go.RowKit

/-- A call that shows more leaves the boxes. -/
theorem Shown.twice {V W X : World} {B b : Nat} {dv : Value} {s s' : St} {f : FuncId} {args : Array Value} {v : Ending} (h : Shown V B b dv s W) (hb : Below W.heap.size W X) (hc : ∀ dv1, Shown X B b dv1 s X → Calls Tryz.prog f args X fun e w' => e = v ∧ Shown X B b dv1 s' w') :
    Calls Tryz.prog f args X fun e w' => e = v ∧ Shown V B b dv s' w' ∧ Keeps X w' := by
  obtain ⟨dv1, ds1, h1, h2, h3⟩ := shown_st (h.later hb)
  have hst := Shown.start h1
  rw [h2] at hst
  exact (hc dv1 hst).mono fun e w' ⟨g1, g2⟩ => ⟨g1, g2.after h3, g2.keeps h1⟩
theorem Shown.line2 {V W X : World} {B b : Nat} {dv : Value} {s : St} (h : Shown V B b dv s W) (hb : Below W.heap.size W X) (hlen : (lineS s).1.length ≤ lim) :
    Calls Tryz.prog 62 #[.pointer (some ⟨b, 0, none⟩)] X fun e w' => e = .returned (.tuple #[]) ∧ Shown V B b dv (lineS s) w' ∧ Keeps X w' :=
  h.twice hb fun _ h1 => h1.line (Below.refl _ _) hlen
theorem Shown.block2 {d : Nat} {wl : St → List Nd → St} {fl : List Nd → Bool} (hw : ListW d wl fl) (hg : Grow2 wl) {V W X : World} {B b : Nat} {dv : Value} {s : St} (h : Shown V B b dv s W) (hb : Below W.heap.size W X) (hH : Hd V B) (head : ByteArray) {l : List Nd} {v : Value} (hl : NdsIn V B d l v) (hf : fl l = true) (hlen : (blockS wl s (L head) l).1.length ≤ lim) :
    Calls Tryz.prog 103 #[.pointer (some ⟨b, 0, none⟩), .string head, v] X fun e w' => e = .returned (.tuple #[]) ∧ Shown V B b dv (blockS wl s (L head) l) w' ∧ Keeps X w' := by
  have hx := h.later hb
  exact h.twice hb fun _ h1 => wblock_any hw hg h1 (Below.refl _ _) (hH.below hx.low) head (hl.below hx.low) hf hlen
set_option maxHeartbeats 4000000 in
set_option maxRecDepth 100000 in
theorem warms_any {d : Nat} {wd : St → List Pt → St} {fw : List Pt → Bool} (hwd : WordW d wd fw) (hg : Grow2 wd) {wl : St → List Nd → St} {fl : List Nd → Bool} (hwl : ListW d wl fl) (hgl : Grow2 wl) {W : World} {B b : Nat} {dv : Value} {out : List UInt8} {ds : List DocV} (x : Nd) (c : List Value) (h : Wr W B b dv out ds) (hH : Hd W B) (hc : NdC W B d x c) (hw0 : 0 < x.words.length) (hfw : x.words.all fw = true) (hfa : x.arms.all (fun a => a.words.all fw && fl a.body) = true) (hlen : (caseS wd wl (stOf out ds) x).1.length ≤ lim) :
    Calls Tryz.prog 104 #[.pointer (some ⟨b, 0, none⟩), .agg c.toArray] W fun e w' => e = .returned (.tuple #[]) ∧ Shown W B b dv (caseS wd wl (stOf out ds) x) w' := by
  obtain ⟨a1, c1, a2, c2, a3, c3, a4, c4, a5, c5, rfl, hxz, ⟨hn1, hn2, hn3, hn4, hn5⟩, _, hWd, _, _, hAr⟩ := hc.open
  obtain ⟨y0w, bw, ow, aw, cw, ⟨ry, hyw⟩, hiw, hbw, hcw⟩ := hWd.first hw0
  obtain ⟨hcw0, hyp0⟩ := hcw
  obtain ⟨n1, hl1⟩ : ∃ n, x.assigns.length = n := ⟨_, rfl⟩
  obtain ⟨n2, hl2⟩ : ∃ n, x.words.length = n := ⟨_, rfl⟩
  obtain ⟨n3, hl3⟩ : ∃ n, x.redirs.length = n := ⟨_, rfl⟩
  obtain ⟨n4, hl4⟩ : ∃ n, x.lists.length = n := ⟨_, rfl⟩
  obtain ⟨n5, hl5⟩ : ∃ n, x.arms.length = n := ⟨_, rfl⟩
  rw [hl2] at hn2 hw0 hiw
  rw [hl5] at hn5 hAr
  rw [hl1, hl2, hl3, hl4, hl5]
  have HA := Lib.hid hAr
  have HYP0 := Lib.hid hyp0
  have HH := Lib.hid hH
  have HWD := Lib.hid hwd
  have HWL := Lib.hid hwl
  have HG := Lib.hid hg
  have HGL := Lib.hid hgl
  have HW := Lib.hid h
  have HFY0 : Hid (fw y0w = true) := Lib.hid (List.all_eq_true.1 hfw y0w (by rw [hyw]; simp))
  have HFA := Lib.hid (List.all_eq_true.1 hfa)
  have HN := Lib.hid hl5
  obtain ⟨s0, hs0⟩ : ∃ s, stOf out ds = s := ⟨_, rfl⟩
  rw [hs0] at hlen ⊢
  have HS0 := Lib.hid hs0
  have HGA : Hid (Grow2 (armS wd wl)) := Lib.hid (armS_grow hg hgl)
  obtain ⟨s1, hs1⟩ : ∃ s, lineS (putS (wd (putS s0 [99, 97, 115, 101, 32]) y0w) [32, 105, 110]) = s := ⟨_, rfl⟩
  have hfst : firstW x = y0w := by rw [firstW, hyw]
  have HR : Hid (caseS wd wl s0 x = putS (x.arms.foldl (armS wd wl) s1) [101, 115, 97, 99]) := Lib.hid (by rw [caseS, hfst, hs1])
  rw [HR.out] at hlen ⊢
  have HLEN := Lib.hid hlen
  have HLA : Hid (∀ k, ((x.arms.take k).foldl (armS wd wl) s1).1.length ≤ lim) := Lib.hid fun k => Nat.le_trans (fold_take_le HGA.out _ _ k) (Nat.le_trans (putS_grow _ _) hlen)
  have HL1 : Hid (s1.1.length ≤ lim) := Lib.hid (HLA.out 0)
  have HL2 : Hid ((putS (wd (putS s0 [99, 97, 115, 101, 32]) y0w) [32, 105, 110]).1.length ≤ lim) := Lib.hid (Nat.le_trans (by rw [← hs1]; exact lineS_grow _) HL1.out)
  have HL3 : Hid ((wd (putS s0 [99, 97, 115, 101, 32]) y0w).1.length ≤ lim) := Lib.hid (Nat.le_trans (putS_grow _ _) HL2.out)
  have HL4 : Hid ((putS s0 [99, 97, 115, 101, 32]).1.length ≤ lim) := Lib.hid (Nat.le_trans (hg _ _) HL3.out)
  have HS1 := Lib.hid hs1
  have hle := h.le
  clear hl1 hl2 hl3 hl4 hl5 hWd hAr hH hwd hwl hg hgl h hfa hfw hlen hc hs0 hs1 hyp0 hfst hyw
  obtain ⟨nc, hnc⟩ : ∃ cs : Array Value, cs = #[.int .i64 x.kind, .string x.name, .slice a1 n1 c1, .slice a2 n2 c2, .slice a3 n3 c3, .slice a4 n4 c4, .slice a5 n5 c5] := ⟨_, rfl⟩
  have HNC := Lib.hid hnc
  obtain ⟨U, hU⟩ : ∃ U, U = W.alloc (.cells nc 38) := ⟨_, rfl⟩
  have HB0 : Hid (Blk U W.heap.size 38 nc) := Lib.hid (by rw [hU]; exact Blk.at rfl)
  have HBL : Hid (Below W.heap.size W U) := Lib.hid (by rw [hU]; exact (Below.refl _ _).alloc (Nat.le_refl _) _)
  rw [hnc] at hU
  have HUE := Lib.hid hU
  clear hU hnc
  have HSU : Hid (Shown W B b dv s0 U) := Lib.hid (by have := (Shown.start HW.out).later HBL.out; rwa [HS0.out] at this)
  have C1 := Lib.hid (HSU.out.str2 (Below.refl _ _) ⟨#[99, 97, 115, 101, 32]⟩ (by have := HL4.out; simpa [putS] using this))
  go_enter Tryz.func104, Tryz.ntmps104
  go_wp2_with fail
  rw [← HUE.out]
  refine C1.out.mono ?_
  rintro e w1 ⟨rfl, hs1, hk1⟩
  have HB1 := Lib.hid (hk1 _ _ _ HB0.out (by decide) (by decide) (by decide))
  have HBN := Lib.hid (HNC.out ▸ HB1.out)
  have e0 := (hs1.low.cell hbw).trans hcw0
  have C2 := Lib.hid (hs1.word2 HWD.out (Below.refl _ _) HH.out HYP0.out HFY0.out HL3.out)
  clear hs1 hk1 C1
  have y0 := HBN.out.cell 0
  have y1 := HBN.out.cell 1
  have y2 := HBN.out.cell 2
  have y3 := HBN.out.cell 3
  have y4 := HBN.out.cell 4
  have y5 := HBN.out.cell 5
  have y6 := HBN.out.cell 6
  have yl := HBN.out.lt
  simp at y0 y1 y2 y3 y4 y5 y6
  go_wp2_with fail
  refine C2.out.mono ?_
  rintro e w2 ⟨rfl, hs2, hk2⟩
  have HB2 := Lib.hid (hk2 _ _ _ HB1.out (by decide) (by decide) (by decide))
  have C3 := Lib.hid (hs2.str2 (Below.refl _ _) ⟨#[32, 105, 110]⟩ (by have := HL2.out; simpa [putS] using this))
  clear hs2 hk2 C2 y0 y1 y2 y3 y4 y5 y6 yl HBN e0
  go_wp2_with fail
  refine C3.out.mono ?_
  rintro e w3 ⟨rfl, hs3, hk3⟩
  have HB3 := Lib.hid (hk3 _ _ _ HB2.out (by decide) (by decide) (by decide))
  have C4 := Lib.hid (hs3.line2 (Below.refl _ _) (by have := HL1.out; rw [← HS1.out] at this; exact this))
  clear hs3 hk3 C3
  go_wp2_with fail
  refine C4.out.mono ?_
  rintro e w4 ⟨rfl, hs4, hk4⟩
  have HB4 := Lib.hid (hk4 _ _ _ HB3.out (by decide) (by decide) (by decide))
  have HS4 : Hid (Shown W B b dv s1 w4) := Lib.hid (by rw [← HS1.out]; exact hs4)
  clear hs4 hk4 C4
  have HBN := Lib.hid (HNC.out ▸ HB4.out)
  have y0 := HBN.out.cell 0
  have y1 := HBN.out.cell 1
  have y2 := HBN.out.cell 2
  have y3 := HBN.out.cell 3
  have y4 := HBN.out.cell 4
  have y5 := HBN.out.cell 5
  have y6 := HBN.out.cell 6
  have yl := HBN.out.lt
  simp at y0 y1 y2 y3 y4 y5 y6
  go_wp2_with fail
  clear y0 y1 y2 y3 y4 y5 y6 yl HBN
  go_loopw [27] (fun i U => ∃ k : Nat, k ≤ n5 ∧ i = .int .i64 k ∧ Shown W B b dv ((x.arms.take k).foldl (armS wd wl) s1) U ∧ Blk U W.heap.size 38 nc) (fun i _ => n5 - (intOf i).toNat)
  case atStart => exact ⟨0, Nat.zero_le _, rfl, HS4.out, HB4.out⟩
  case round =>
    obtain ⟨k, hk, rfl, hsh, hbk⟩ := hrel
    obtain ⟨wo, rfl⟩ : ∃ wo : World, wo = wr := ⟨_, rfl⟩
    obtain ⟨s, hs⟩ : ∃ s, (x.arms.take k).foldl (armS wd wl) s1 = s := ⟨_, rfl⟩
    rw [hs] at hsh
    have HS := Lib.hid hs
    have HSH := Lib.hid hsh
    have HBK := Lib.hid hbk
    have hlow := hsh.low
    have hleW := hsh.le
    clear hsh hs hbk HB4 HS4
    by_cases hlt : k < n5
    · obtain ⟨y, hy⟩ : ∃ y, x.arms[k]? = .some y := ⟨_, List.getElem?_eq_getElem (by rw [HN.out]; exact hlt)⟩
      obtain ⟨b1, o, c, hi, hbB, hce, hC, _⟩ := HA.out.at 36 90 Tryz.underlying36 (by kernel_rfl) hy
      obtain ⟨a6, c6, a7, c7, rfl, ⟨hz6, hz7⟩, hyw, hyb⟩ := hC.open
      have HSX : Hid ((x.arms.take (k + 1)).foldl (armS wd wl) s1 = armS wd wl s y) := Lib.hid (by rw [fold_take hy, HS.out])
      have hm := List.mem_of_getElem? hy
      have hf := HFA.out y hm
      rw [Bool.and_eq_true] at hf
      have HFW := Lib.hid (List.all_eq_true.1 hf.1)
      have HFB : Hid (fl y.body = true) := Lib.hid hf.2
      have HYB := Lib.hid hyb
      obtain ⟨n6, hn6⟩ : ∃ n, y.words.length = n := ⟨_, rfl⟩
      obtain ⟨n7, hn7⟩ : ∃ n, y.body.length = n := ⟨_, rfl⟩
      have e0 := (hlow.cell hbB).trans (hce 0 _ rfl)
      have e1 := (hlow.cell hbB).trans (hce 1 _ rfl)
      have hbB' := Nat.lt_of_lt_of_le hbB hleW
      rw [Nat.add_zero] at e0
      rw [hn6] at e0 hyw hz6
      rw [hn7] at e1 HYB hz7
      have HYW := Lib.hid hyw
      have N6 := Lib.hid hn6
      obtain ⟨sa, hsa⟩ : ∃ s', barsS wd (putS s [40]) y.words false = s' := ⟨_, rfl⟩
      obtain ⟨sb, hsb⟩ : ∃ s', blockS wl sa [41] y.body = s' := ⟨_, rfl⟩
      have HSY : Hid (armS wd wl s y = lineS (putS sb [59, 59])) := Lib.hid (by rw [armS, hsa, hsb])
      have HSA := Lib.hid hsa
      have HSB := Lib.hid hsb
      have HZ0 : Hid ((lineS (putS sb [59, 59])).1.length ≤ lim) := Lib.hid (by have := HLA.out (k + 1); rwa [HSX.out, HSY.out] at this)
      have HZ1 : Hid ((putS sb [59, 59]).1.length ≤ lim) := Lib.hid (Nat.le_trans (lineS_grow _) HZ0.out)
      have HZ2 : Hid (sb.1.length ≤ lim) := Lib.hid (Nat.le_trans (putS_grow _ _) HZ1.out)
      have HZ3 : Hid (sa.1.length ≤ lim) := Lib.hid (Nat.le_trans (by rw [← hsb]; exact blockS_grow HGL.out _ _ _) HZ2.out)
      have HZ4 : Hid (∀ j, (barsS wd (putS s [40]) (y.words.take j) false).1.length ≤ lim) := Lib.hid fun j => Nat.le_trans (bars_take_le HG.out _ _ _ j) (by rw [hsa]; exact HZ3.out)
      obtain ⟨X, hX⟩ : ∃ X, X = wo.alloc (.cells #[.slice a6 n6 c6, .slice a7 n7 c7] 90) := ⟨_, rfl⟩
      have HBX : Hid (Below wo.heap.size wo X) := Lib.hid (by rw [hX]; exact (Below.refl _ _).alloc (Nat.le_refl _) _)
      have HKX : Hid (Blk X wo.heap.size 90 #[.slice a6 n6 c6, .slice a7 n7 c7]) := Lib.hid (by rw [hX]; exact Blk.new _ _ _)
      have HBKX := Lib.hid (HBK.out.below HBX.out HBK.out.lt)
      have HXE := Lib.hid hX
      have CB := Lib.hid (HSH.out.byte2 HBX.out 40 (by have := HZ4.out 0; simpa [barsS, putS] using this))
      have HBN := Lib.hid (HNC.out ▸ HBK.out)
      have y0 := HBN.out.cell 0
      have y1 := HBN.out.cell 1
      have y2 := HBN.out.cell 2
      have y3 := HBN.out.cell 3
      have y4 := HBN.out.cell 4
      have y5 := HBN.out.cell 5
      have y6 := HBN.out.cell 6
      have yl := HBN.out.lt
      simp at y0 y1 y2 y3 y4 y5 y6
      clear hy hce hC hX hyw hyb hm hf hn6 hn7 hsa hsb
      go_wp2_with fail
      rw [← HXE.out]
      refine CB.out.mono ?_
      rintro e w5 ⟨rfl, hs5, hk5⟩
      have HB5 := Lib.hid (hk5 _ _ _ HBKX.out (by decide) (by decide) (by decide))
      have HK5 := Lib.hid (hk5 _ _ _ HKX.out (by decide) (by decide) (by decide))
      have HS5 := Lib.hid hs5
      clear hs5 hk5 CB y0 y1 y2 y3 y4 y5 y6 yl HBN
      have z0 := HK5.out.cell 0
      have z1 := HK5.out.cell 1
      have zl := HK5.out.lt
      simp at z0 z1
      go_wp2_with fail
      clear z0 z1 zl
      go_loopw [38] (fun i U => ∃ j : Nat, j ≤ n6 ∧ i = .int .i64 j ∧ Shown W B b dv (barsS wd (putS s [40]) (y.words.take j) false) U ∧ Blk U W.heap.size 38 nc ∧ Blk U wo.heap.size 90 #[.slice a6 n6 c6, .slice a7 n7 c7]) (fun i _ => n6 - (intOf i).toNat)
      case atStart => exact ⟨0, Nat.zero_le _, rfl, HS5.out, HB5.out, HK5.out⟩
      case round =>
        obtain ⟨j, hj, rfl, hsh, hbk, hkk⟩ := hrel
        obtain ⟨sj, hsj⟩ : ∃ s', barsS wd (putS s [40]) (y.words.take j) false = s' := ⟨_, rfl⟩
        rw [hsj] at hsh
        have HSJ := Lib.hid hsj
        have HSH2 := Lib.hid hsh
        have HB6 := Lib.hid hbk
        have HK6 := Lib.hid hkk
        have hlow2 := hsh.low
        clear hsh hbk hkk hsj HB5 HK5 HS5
        have z0 := HK6.out.cell 0
        have z1 := HK6.out.cell 1
        have zl := HK6.out.lt
        simp at z0 z1
        by_cases hlt2 : j < n6
        · obtain ⟨p, hp⟩ : ∃ p, y.words[j]? = .some p := ⟨_, List.getElem?_eq_getElem (by rw [N6.out]; exact hlt2)⟩
          obtain ⟨b2, o2, c, hi2, hbB2, hce2, ⟨pv, rfl, hpp⟩, _⟩ := HYW.out.at 34 29 Tryz.underlying34 (by kernel_rfl) hp
          obtain ⟨a8, c8, rfl, _⟩ := hpp.shape
          have HP1 : Hid (barsS wd (putS s [40]) (y.words.take (j + 1)) false = wd (bif decide (0 < j) then putS sj [32, 124, 32] else sj) p) := Lib.hid (by
            rw [take_snoc' hp, bars_snoc, HSJ.out, take_empty (by rw [N6.out]; exact hlt2), Bool.false_or])
          have HLP := Lib.hid (HZ4.out (j + 1))
          rw [HP1.out] at HLP
          have HFP : Hid (fw p = true) := Lib.hid (HFW.out p (List.mem_of_getElem? hp))
          have HPP := Lib.hid hpp
          have q0 := (hlow2.cell hbB2).trans (hce2 0 _ rfl)
          rw [Nat.add_zero] at q0
          clear hp hpp
          by_cases h0 : j = 0
          · subst h0
            have hi0 : ∀ w' : World, (Instr.indexAt 34 (.slice a6 n6 c6) (.int .i64 0)).run Tryz.prog w' = .ok (.pointer (some ⟨b2, o2, none⟩)) w' := fun w' => hi2 w'
            have CW := Lib.hid (HSH2.out.word2 HWD.out (Below.refl _ _) HH.out HPP.out HFP.out (by have := HLP.out; simpa using this))
            go_wp2_with fail
            refine CW.out.mono ?_
            rintro e w8 ⟨rfl, hs8, hk8⟩
            have HS8 := Lib.hid hs8
            have HB8 := Lib.hid (hk8 _ _ _ HB6.out (by decide) (by decide) (by decide))
            have HK8 := Lib.hid (hk8 _ _ _ HK6.out (by decide) (by decide) (by decide))
            clear hs8 hk8
            go_wp2_with fail
            go_roundw
            case rel => exact ⟨0 + 1, by omega, by go_num, by rw [HP1.out]; simpa using HS8.out, HB8.out, HK8.out⟩
            case measure => simp [intOf]; omega
          · have hk0 : decide ((0 : Int) < (j : Int)) = true := by simp; omega
            have hk1 : decide (0 < j) = true := by simp; omega
            rw [hk1] at HLP HP1
            have CS := Lib.hid (HSH2.out.str2 (Below.refl _ _) ⟨#[32, 124, 32]⟩ (by
              have h1 := Nat.le_trans (HG.out (putS sj [32, 124, 32]) p) HLP.out
              simpa [putS] using h1))
            go_wp2_with fail
            refine CS.out.mono ?_
            rintro e w7 ⟨rfl, hs7, hk7⟩
            have HB7 := Lib.hid (hk7 _ _ _ HB6.out (by decide) (by decide) (by decide))
            have HK7 := Lib.hid (hk7 _ _ _ HK6.out (by decide) (by decide) (by decide))
            have q0 := (hs7.low.cell hbB2).trans (hce2 0 _ rfl)
            rw [Nat.add_zero] at q0
            have CW := Lib.hid (hs7.word2 HWD.out (Below.refl _ _) HH.out HPP.out HFP.out HLP.out)
            clear hs7 hk7
            go_wp2_with fail
            refine CW.out.mono ?_
            rintro e w8 ⟨rfl, hs8, hk8⟩
            have HS8 := Lib.hid hs8
            have HB8 := Lib.hid (hk8 _ _ _ HB7.out (by decide) (by decide) (by decide))
            have HK8 := Lib.hid (hk8 _ _ _ HK7.out (by decide) (by decide) (by decide))
            clear hs8 hk8
            go_wp2_with fail
            go_roundw
            case rel => exact ⟨j + 1, by omega, by go_num, by rw [HP1.out]; exact HS8.out, HB8.out, HK8.out⟩
            case measure => simp [intOf]; omega
        · have HTK : Hid (y.words.take j = y.words) := Lib.hid (List.take_of_length_le (by rw [N6.out]; omega))
          have HSE : Hid (sj = sa) := Lib.hid (by rw [← HSJ.out, HTK.out]; exact HSA.out)
          rw [HSE.out] at HSH2
          have CK := Lib.hid (HSH2.out.block2 HWL.out HGL.out (Below.refl _ _) HH.out ⟨#[41]⟩ HYB.out HFB.out (by have := HZ2.out; rw [← HSB.out] at this; exact this))
          go_wp2_with fail
          refine CK.out.mono ?_
          rintro e w7 ⟨rfl, hs7, hk7⟩
          have HB7 := Lib.hid (hk7 _ _ _ HB6.out (by decide) (by decide) (by decide))
          have hs7' : Shown W B b dv sb w7 := by rw [← HSB.out]; exact hs7
          have CS := Lib.hid (hs7'.str2 (Below.refl _ _) ⟨#[59, 59]⟩ (by have := HZ1.out; simpa [putS] using this))
          clear hs7 hs7' hk7 z0 z1 zl
          go_wp2_with fail
          refine CS.out.mono ?_
          rintro e w8 ⟨rfl, hs8, hk8⟩
          have HB8 := Lib.hid (hk8 _ _ _ HB7.out (by decide) (by decide) (by decide))
          have CL := Lib.hid (hs8.line2 (Below.refl _ _) HZ0.out)
          clear hs8 hk8
          go_wp2_with fail
          refine CL.out.mono ?_
          rintro e w9 ⟨rfl, hs9, hk9⟩
          have HB9 := Lib.hid (hk9 _ _ _ HB8.out (by decide) (by decide) (by decide))
          have HS9 := Lib.hid hs9
          clear hs9 hk9
          go_wp2_with fail
          go_roundw
          case rel => exact ⟨k + 1, by omega, by go_num, by rw [HSX.out, HSY.out]; exact HS9.out, HB9.out⟩
          case measure => simp [intOf]; omega
    · have HTK : Hid (x.arms.take k = x.arms) := Lib.hid (List.take_of_length_le (by rw [HN.out]; omega))
      rw [HTK.out] at HS
      have CE := Lib.hid (HSH.out.str (Below.refl _ _) ⟨#[101, 115, 97, 99]⟩ (by have := HLEN.out; rw [HS.out] at this; simpa [putS] using this))
      have HBN := Lib.hid (HNC.out ▸ HBK.out)
      have y0 := HBN.out.cell 0
      have y1 := HBN.out.cell 1
      have y2 := HBN.out.cell 2
      have y3 := HBN.out.cell 3
      have y4 := HBN.out.cell 4
      have y5 := HBN.out.cell 5
      have y6 := HBN.out.cell 6
      have yl := HBN.out.lt
      simp at y0 y1 y2 y3 y4 y5 y6
      go_wp2_with fail
      refine CE.out.mono ?_
      rintro e w5 ⟨rfl, hs5⟩
      have HS5 := Lib.hid hs5
      clear hs5
      go_wp2_with fail
      go_end0
      exact ⟨rfl, by rw [HS.out]; exact HS5.out⟩
end Go.Proofs.YtnackmnoldkihaaGreatDoor
/-
  The walk of the writer's compound.
-/
namespace Go.Proofs.YtnackmnoldkihaaGreatDoor
open Go.RowKit

/-- A list of a command. -/
theorem LssIn.nth {w : World} {B d : Nat} {x : Nd} {v : Value} (h : LssIn w B d x.lists v) (k : Nat) (i : Int) (e : i = k) (hk : k < x.lists.length) : ∃ y b o a c, listAt x k = y ∧ y ∈ x.lists ∧ (∀ w' : World, (Instr.indexAt 35 v (.int .i64 i)).run Tryz.prog w' = .ok (.pointer (some ⟨b, o, none⟩)) w') ∧ b < B ∧
    w.cell? ⟨b, o, none⟩ = some (.slice a y.length c) ∧ NdsIn w B d y (.slice a y.length c) := by
  obtain ⟨y, hy⟩ : ∃ y, x.lists[k]? = .some y := ⟨_, List.getElem?_eq_getElem hk⟩
  obtain ⟨b, o, c, hi, hb, hc, ⟨v, rfl, hp⟩, _⟩ := h.at 35 22 Tryz.underlying35 (by kernel_rfl) hy
  obtain ⟨a, cap, rfl, _⟩ := hp.shape
  exact ⟨y, b, o, a, cap, by rw [listAt, List.getD, hy]; rfl, List.mem_of_getElem? hy, fun w' => by rw [e]; exact hi w', hb, hc 0 _ rfl, hp⟩
theorem NdC.later2 {W U : World} {B d : Nat} {x : Nd} {c : List Value} (h : NdC W B d x c) (hb : Below B W U) : NdC U B d x c := h.keep fun _ _ _ _ hs => hs.below hb

set_option maxHeartbeats 4000000 in
set_option maxRecDepth 100000 in
theorem wcompound_any {d : Nat} {wd : St → List Pt → St} {fw : List Pt → Bool} (hwd : WordW d wd fw) (hg : Grow2 wd) {wl : St → List Nd → St} {fl : List Nd → Bool} (hwl : ListW d wl fl) (hgl : Grow2 wl) {W : World} {B b : Nat} {dv : Value} {out : List UInt8} {ds : List DocV} (x : Nd) (c : List Value) (h : Wr W B b dv out ds) (hH : Hd W B) (hc : NdC W B d x c) (hsh : shapeF x = true) (hno : ((x.kind == 1) || ((x.kind == 2 || x.kind == 3) || x.kind == 4)) = false) (hno2 : (x.kind == 5 || x.kind == 11) = false) (hfw : x.words.all fw = true) (hfl : x.lists.all fl = true) (hfa : x.arms.all (fun a => a.words.all fw && fl a.body) = true) (hlen : (compS wd wl (stOf out ds) x).1.length ≤ lim) :
    Calls Tryz.prog 79 #[.pointer (some ⟨b, 0, none⟩), .agg c.toArray] W fun e w' => e = .returned (.tuple #[]) ∧ Shown W B b dv (compS wd wl (stOf out ds) x) w' := by
  have HC := Lib.hid hc
  obtain ⟨a1, c1, a2, c2, a3, c3, a4, c4, a5, c5, rfl, hxz, ⟨hn1, hn2, hn3, hn4, hn5⟩, _, hWd, _, hLs, _⟩ := hc.open
  obtain ⟨n1, hl1⟩ : ∃ n, x.assigns.length = n := ⟨_, rfl⟩
  obtain ⟨n2, hl2⟩ : ∃ n, x.words.length = n := ⟨_, rfl⟩
  obtain ⟨n3, hl3⟩ : ∃ n, x.redirs.length = n := ⟨_, rfl⟩
  obtain ⟨n4, hl4⟩ : ∃ n, x.lists.length = n := ⟨_, rfl⟩
  obtain ⟨n5, hl5⟩ : ∃ n, x.arms.length = n := ⟨_, rfl⟩
  rw [hl2] at hn2 hWd
  rw [hl4] at hn4 hLs
  rw [hl1, hl2, hl3, hl4, hl5] at HC ⊢
  have HL := Lib.hid hLs
  have HWS := Lib.hid hWd
  have HH := Lib.hid hH
  have HWD := Lib.hid hwd
  have HWL := Lib.hid hwl
  have HG := Lib.hid hg
  have HGL := Lib.hid hgl
  have HW := Lib.hid h
  have HFW := Lib.hid (List.all_eq_true.1 hfw)
  have HFW0 := Lib.hid hfw
  have HFL := Lib.hid (List.all_eq_true.1 hfl)
  have HFA := Lib.hid hfa
  have N2 := Lib.hid hl2
  have N4 := Lib.hid hl4
  obtain ⟨s0, hs0⟩ : ∃ s, stOf out ds = s := ⟨_, rfl⟩
  rw [hs0] at hlen ⊢
  have HS0 := Lib.hid hs0
  obtain ⟨r, hr⟩ : ∃ r, compS wd wl s0 x = r := ⟨_, rfl⟩
  rw [hr] at hlen ⊢
  have HLEN := Lib.hid hlen
  obtain ⟨xk, hxk⟩ : ∃ k, x.kind = k := ⟨_, rfl⟩
  rw [compS, hxk] at hr
  rw [shapeF, hxk] at hsh
  rw [hxk] at hno hno2 HC ⊢
  rw [Bool.or_eq_false_iff] at hno
  rw [hno.1, hno.2, hno2] at hsh
  have HR := Lib.hid hr
  have HSF := Lib.hid hsh
  have HXK := Lib.hid hxk
  have hle := h.le
  clear hl1 hl2 hl3 hl4 hl5 hWd hLs hH hwd hwl hg hgl h hfa hfw hfl hlen hc hs0 hr hxk hsh hno hno2
  obtain ⟨nc, hnc⟩ : ∃ cs : Array Value, cs = #[.int .i64 xk, .string x.name, .slice a1 n1 c1, .slice a2 n2 c2, .slice a3 n3 c3, .slice a4 n4 c4, .slice a5 n5 c5] := ⟨_, rfl⟩
  have HNC := Lib.hid hnc
  obtain ⟨U, hU⟩ : ∃ U, U = W.alloc (.cells nc 38) := ⟨_, rfl⟩
  have HB0 : Hid (Blk U W.heap.size 38 nc) := Lib.hid (by rw [hU]; exact Blk.at rfl)
  have HBL : Hid (Below W.heap.size W U) := Lib.hid (by rw [hU]; exact (Below.refl _ _).alloc (Nat.le_refl _) _)
  rw [hnc] at hU
  have HUE := Lib.hid hU
  clear hU hnc
  have HSU : Hid (Shown W B b dv s0 U) := Lib.hid (by have := (Shown.start HW.out).later HBL.out; rwa [HS0.out] at this)
  cases k6 : (xk == 6) with
  | true =>
    have h2 : 2 ≤ n4 := by have := HSF.out; rw [k6] at this; simpa [N4.out] using this
    obtain ⟨y0, bk0, ok0, ak0, ck0, hy0, hm0, hi0, hb0, hc0, hl0⟩ := LssIn.nth (N4.out ▸ HL.out) 0 0 rfl (by rw [N4.out]; omega)
    rw [N4.out] at hi0
    have HY0 := Lib.hid hl0
    have HLA0 := Lib.hid hy0
    have HF0 := Lib.hid (HFL.out _ hm0)
    have hb0' := Nat.lt_of_lt_of_le hb0 hle
    clear hl0 hy0 hm0
    obtain ⟨y1, bk1, ok1, ak1, ck1, hy1, hm1, hi1, hb1, hc1, hl1⟩ := LssIn.nth (N4.out ▸ HL.out) 1 1 rfl (by rw [N4.out]; omega)
    rw [N4.out] at hi1
    have HY1 := Lib.hid hl1
    have HLA1 := Lib.hid hy1
    have HF1 := Lib.hid (HFL.out _ hm1)
    have hb1' := Nat.lt_of_lt_of_le hb1 hle
    clear hl1 hy1 hm1
    obtain ⟨t1, ht1⟩ : ∃ s, blockS wl s0 [105, 102] y0 = s := ⟨_, rfl⟩
    obtain ⟨t2, ht2⟩ : ∃ s, blockS wl t1 [116, 104, 101, 110] y1 = s := ⟨_, rfl⟩
    have T1 := Lib.hid ht1
    have T2 := Lib.hid ht2
    clear ht1 ht2
    by_cases h3 : 2 < n4
    · have tok0 : True := trivial
      obtain ⟨y2, bk2, ok2, ak2, ck2, hy2, hm2, hi2, hb2, hc2, hl2⟩ := LssIn.nth (N4.out ▸ HL.out) 2 2 rfl (by rw [N4.out]; omega)
      rw [N4.out] at hi2
      have HY2 := Lib.hid hl2
      have HLA2 := Lib.hid hy2
      have HF2 := Lib.hid (HFL.out _ hm2)
      have hb2' := Nat.lt_of_lt_of_le hb2 hle
      clear hl2 hy2 hm2
      obtain ⟨t3, ht3⟩ : ∃ s, blockS wl t2 [101, 108, 115, 101] y2 = s := ⟨_, rfl⟩
      have T3 := Lib.hid ht3
      clear ht3
      have HE : Hid (r = putS t3 [102, 105]) := Lib.hid (by rw [← HR.out, k6, N4.out, decide_eq_true h3, HLA0.out, HLA1.out, HLA2.out]; show putS (blockS wl (blockS wl (blockS wl s0 _ _) _ _) _ _) _ = _; rw [T1.out, T2.out, T3.out])
      have HZ3 : Hid (t3.1.length ≤ lim) := Lib.hid (Nat.le_trans (putS_grow _ _) (by have := HLEN.out; rw [HE.out] at this; exact this))
      have HZ2 : Hid (t2.1.length ≤ lim) := Lib.hid (Nat.le_trans (by rw [← T3.out]; exact blockS_grow HGL.out _ _ _) HZ3.out)
      have e6 : decide ((2 : Int) < (n4 : Int)) = true := by simp; omega
      have HZ1 : Hid (t1.1.length ≤ lim) := Lib.hid (Nat.le_trans (by rw [← T2.out]; exact blockS_grow HGL.out _ _ _) HZ2.out)
      have C1 := Lib.hid (HSU.out.block2 HWL.out HGL.out (Below.refl _ _) HH.out ⟨#[105, 102]⟩ HY0.out HF0.out (by have := HZ1.out; rw [← T1.out] at this; exact this))
      rw [show blockS wl s0 (L ⟨#[105, 102]⟩) y0 = t1 from T1.out] at C1
      go_enter Tryz.func79, Tryz.ntmps79
      go_wp2_with fail
      rw [← HUE.out]
      refine C1.out.mono ?_
      rintro e w1 ⟨rfl, hsw1, hkw1⟩
      have HBw1 := Lib.hid (hkw1 _ _ _ HB0.out (by decide) (by decide) (by decide))
      have HSw1 := Lib.hid hsw1
      have HBN := Lib.hid (HNC.out ▸ HBw1.out)
      clear hsw1 hkw1 C1
      have p0 := HBN.out.cell 0
      have p1 := HBN.out.cell 1
      have p2 := HBN.out.cell 2
      have p3 := HBN.out.cell 3
      have p4 := HBN.out.cell 4
      have p5 := HBN.out.cell 5
      have p6 := HBN.out.cell 6
      have pl := HBN.out.lt
      simp at p0 p1 p2 p3 p4 p5 p6
      have e1 := (HSw1.out.low.cell hb1).trans hc1
      have C2 := Lib.hid (HSw1.out.block2 HWL.out HGL.out (Below.refl _ _) HH.out ⟨#[116, 104, 101, 110]⟩ HY1.out HF1.out (by have := HZ2.out; rw [← T2.out] at this; exact this))
      rw [show blockS wl t1 (L ⟨#[116, 104, 101, 110]⟩) y1 = t2 from T2.out] at C2
      go_wp2_with fail
      clear p0 p1 p2 p3 p4 p5 p6 pl HBN e1
      refine C2.out.mono ?_
      rintro e w2 ⟨rfl, hsw2, hkw2⟩
      have HBw2 := Lib.hid (hkw2 _ _ _ HBw1.out (by decide) (by decide) (by decide))
      have HSw2 := Lib.hid hsw2
      have HBN := Lib.hid (HNC.out ▸ HBw2.out)
      clear hsw2 hkw2 C2
      have p0 := HBN.out.cell 0
      have p1 := HBN.out.cell 1
      have p2 := HBN.out.cell 2
      have p3 := HBN.out.cell 3
      have p4 := HBN.out.cell 4
      have p5 := HBN.out.cell 5
      have p6 := HBN.out.cell 6
      have pl := HBN.out.lt
      simp at p0 p1 p2 p3 p4 p5 p6
      have e2 := (HSw2.out.low.cell hb2).trans hc2
      have C3 := Lib.hid (HSw2.out.block2 HWL.out HGL.out (Below.refl _ _) HH.out ⟨#[101, 108, 115, 101]⟩ HY2.out HF2.out (by have := HZ3.out; rw [← T3.out] at this; exact this))
      rw [show blockS wl t2 (L ⟨#[101, 108, 115, 101]⟩) y2 = t3 from T3.out] at C3
      go_wp2_with fail
      clear p0 p1 p2 p3 p4 p5 p6 pl HBN e2
      refine C3.out.mono ?_
      rintro e w3 ⟨rfl, hsw3, hkw3⟩
      have HBw3 := Lib.hid (hkw3 _ _ _ HBw2.out (by decide) (by decide) (by decide))
      have HSw3 := Lib.hid hsw3
      have HBN := Lib.hid (HNC.out ▸ HBw3.out)
      clear hsw3 hkw3 C3
      have p0 := HBN.out.cell 0
      have p1 := HBN.out.cell 1
      have p2 := HBN.out.cell 2
      have p3 := HBN.out.cell 3
      have p4 := HBN.out.cell 4
      have p5 := HBN.out.cell 5
      have p6 := HBN.out.cell 6
      have pl := HBN.out.lt
      simp at p0 p1 p2 p3 p4 p5 p6
      have CE := Lib.hid (HSw3.out.str (Below.refl _ _) ⟨#[102, 105]⟩ (by have := HLEN.out; rw [HE.out] at this; simpa [putS] using this))
      go_wp2_with fail
      refine CE.out.mono ?_
      rintro e w9 ⟨rfl, hs9⟩
      have HS9 := Lib.hid hs9
      clear hs9
      go_wp2_with fail
      go_end0
      exact ⟨rfl, by rw [HE.out]; exact HS9.out⟩
    · have HE : Hid (r = putS t2 [102, 105]) := Lib.hid (by rw [← HR.out, k6, N4.out, decide_eq_false h3, HLA0.out, HLA1.out]; show putS (blockS wl (blockS wl s0 _ _) _ _) _ = _; rw [T1.out, T2.out])
      have HZ2 : Hid (t2.1.length ≤ lim) := Lib.hid (Nat.le_trans (putS_grow _ _) (by have := HLEN.out; rw [HE.out] at this; exact this))
      have e6 : decide ((2 : Int) < (n4 : Int)) = false := by simp; omega
      have HZ1 : Hid (t1.1.length ≤ lim) := Lib.hid (Nat.le_trans (by rw [← T2.out]; exact blockS_grow HGL.out _ _ _) HZ2.out)
      have C1 := Lib.hid (HSU.out.block2 HWL.out HGL.out (Below.refl _ _) HH.out ⟨#[105, 102]⟩ HY0.out HF0.out (by have := HZ1.out; rw [← T1.out] at this; exact this))
      rw [show blockS wl s0 (L ⟨#[105, 102]⟩) y0 = t1 from T1.out] at C1
      go_enter Tryz.func79, Tryz.ntmps79
      go_wp2_with fail
      rw [← HUE.out]
      refine C1.out.mono ?_
      rintro e w1 ⟨rfl, hsw1, hkw1⟩
      have HBw1 := Lib.hid (hkw1 _ _ _ HB0.out (by decide) (by decide) (by decide))
      have HSw1 := Lib.hid hsw1
      have HBN := Lib.hid (HNC.out ▸ HBw1.out)
      clear hsw1 hkw1 C1
      have p0 := HBN.out.cell 0
      have p1 := HBN.out.cell 1
      have p2 := HBN.out.cell 2
      have p3 := HBN.out.cell 3
      have p4 := HBN.out.cell 4
      have p5 := HBN.out.cell 5
      have p6 := HBN.out.cell 6
      have pl := HBN.out.lt
      simp at p0 p1 p2 p3 p4 p5 p6
      have e1 := (HSw1.out.low.cell hb1).trans hc1
      have C2 := Lib.hid (HSw1.out.block2 HWL.out HGL.out (Below.refl _ _) HH.out ⟨#[116, 104, 101, 110]⟩ HY1.out HF1.out (by have := HZ2.out; rw [← T2.out] at this; exact this))
      rw [show blockS wl t1 (L ⟨#[116, 104, 101, 110]⟩) y1 = t2 from T2.out] at C2
      go_wp2_with fail
      clear p0 p1 p2 p3 p4 p5 p6 pl HBN e1
      refine C2.out.mono ?_
      rintro e w2 ⟨rfl, hsw2, hkw2⟩
      have HBw2 := Lib.hid (hkw2 _ _ _ HBw1.out (by decide) (by decide) (by decide))
      have HSw2 := Lib.hid hsw2
      have HBN := Lib.hid (HNC.out ▸ HBw2.out)
      clear hsw2 hkw2 C2
      have p0 := HBN.out.cell 0
      have p1 := HBN.out.cell 1
      have p2 := HBN.out.cell 2
      have p3 := HBN.out.cell 3
      have p4 := HBN.out.cell 4
      have p5 := HBN.out.cell 5
      have p6 := HBN.out.cell 6
      have pl := HBN.out.lt
      simp at p0 p1 p2 p3 p4 p5 p6
      have CE := Lib.hid (HSw2.out.str (Below.refl _ _) ⟨#[102, 105]⟩ (by have := HLEN.out; rw [HE.out] at this; simpa [putS] using this))
      go_wp2_with fail
      refine CE.out.mono ?_
      rintro e w9 ⟨rfl, hs9⟩
      have HS9 := Lib.hid hs9
      clear hs9
      go_wp2_with fail
      go_end0
      exact ⟨rfl, by rw [HE.out]; exact HS9.out⟩
  | false =>
  cases k7 : (xk == 7) with
  | true =>
    have h2 : 2 ≤ n4 := by have := HSF.out; rw [k6, k7] at this; simpa [N4.out] using this
    obtain ⟨y0, bk0, ok0, ak0, ck0, hy0, hm0, hi0, hb0, hc0, hl0⟩ := LssIn.nth (N4.out ▸ HL.out) 0 0 rfl (by rw [N4.out]; omega)
    rw [N4.out] at hi0
    have HY0 := Lib.hid hl0
    have HLA0 := Lib.hid hy0
    have HF0 := Lib.hid (HFL.out _ hm0)
    have hb0' := Nat.lt_of_lt_of_le hb0 hle
    clear hl0 hy0 hm0
    obtain ⟨y1, bk1, ok1, ak1, ck1, hy1, hm1, hi1, hb1, hc1, hl1⟩ := LssIn.nth (N4.out ▸ HL.out) 1 1 rfl (by rw [N4.out]; omega)
    rw [N4.out] at hi1
    have HY1 := Lib.hid hl1
    have HLA1 := Lib.hid hy1
    have HF1 := Lib.hid (HFL.out _ hm1)
    have hb1' := Nat.lt_of_lt_of_le hb1 hle
    clear hl1 hy1 hm1
    obtain ⟨t1, ht1⟩ : ∃ s, blockS wl s0 [119, 104, 105, 108, 101] y0 = s := ⟨_, rfl⟩
    obtain ⟨t2, ht2⟩ : ∃ s, blockS wl t1 [100, 111] y1 = s := ⟨_, rfl⟩
    have T1 := Lib.hid ht1
    have T2 := Lib.hid ht2
    clear ht1 ht2
    have HE : Hid (r = putS t2 [100, 111, 110, 101]) := Lib.hid (by rw [← HR.out, k6, k7, HLA0.out, HLA1.out]; show putS (blockS wl (blockS wl s0 _ _) _ _) _ = _; rw [T1.out, T2.out])
    have HZ2 : Hid (t2.1.length ≤ lim) := Lib.hid (Nat.le_trans (putS_grow _ _) (by have := HLEN.out; rw [HE.out] at this; exact this))
    have HZ1 : Hid (t1.1.length ≤ lim) := Lib.hid (Nat.le_trans (by rw [← T2.out]; exact blockS_grow HGL.out _ _ _) HZ2.out)
    have C1 := Lib.hid (HSU.out.block2 HWL.out HGL.out (Below.refl _ _) HH.out ⟨#[119, 104, 105, 108, 101]⟩ HY0.out HF0.out (by have := HZ1.out; rw [← T1.out] at this; exact this))
    rw [show blockS wl s0 (L ⟨#[119, 104, 105, 108, 101]⟩) y0 = t1 from T1.out] at C1
    go_enter Tryz.func79, Tryz.ntmps79
    go_wp2_with fail
    rw [← HUE.out]
    refine C1.out.mono ?_
    rintro e w1 ⟨rfl, hsw1, hkw1⟩
    have HBw1 := Lib.hid (hkw1 _ _ _ HB0.out (by decide) (by decide) (by decide))
    have HSw1 := Lib.hid hsw1
    have HBN := Lib.hid (HNC.out ▸ HBw1.out)
    clear hsw1 hkw1 C1
    have p0 := HBN.out.cell 0
    have p1 := HBN.out.cell 1
    have p2 := HBN.out.cell 2
    have p3 := HBN.out.cell 3
    have p4 := HBN.out.cell 4
    have p5 := HBN.out.cell 5
    have p6 := HBN.out.cell 6
    have pl := HBN.out.lt
    simp at p0 p1 p2 p3 p4 p5 p6
    have e1 := (HSw1.out.low.cell hb1).trans hc1
    have C2 := Lib.hid (HSw1.out.block2 HWL.out HGL.out (Below.refl _ _) HH.out ⟨#[100, 111]⟩ HY1.out HF1.out (by have := HZ2.out; rw [← T2.out] at this; exact this))
    rw [show blockS wl t1 (L ⟨#[100, 111]⟩) y1 = t2 from T2.out] at C2
    go_wp2_with fail
    clear p0 p1 p2 p3 p4 p5 p6 pl HBN e1
    refine C2.out.mono ?_
    rintro e w2 ⟨rfl, hsw2, hkw2⟩
    have HBw2 := Lib.hid (hkw2 _ _ _ HBw1.out (by decide) (by decide) (by decide))
    have HSw2 := Lib.hid hsw2
    have HBN := Lib.hid (HNC.out ▸ HBw2.out)
    clear hsw2 hkw2 C2
    have p0 := HBN.out.cell 0
    have p1 := HBN.out.cell 1
    have p2 := HBN.out.cell 2
    have p3 := HBN.out.cell 3
    have p4 := HBN.out.cell 4
    have p5 := HBN.out.cell 5
    have p6 := HBN.out.cell 6
    have pl := HBN.out.lt
    simp at p0 p1 p2 p3 p4 p5 p6
    have CE := Lib.hid (HSw2.out.str (Below.refl _ _) ⟨#[100, 111, 110, 101]⟩ (by have := HLEN.out; rw [HE.out] at this; simpa [putS] using this))
    go_wp2_with fail
    refine CE.out.mono ?_
    rintro e w9 ⟨rfl, hs9⟩
    have HS9 := Lib.hid hs9
    clear hs9
    go_wp2_with fail
    go_end0
    exact ⟨rfl, by rw [HE.out]; exact HS9.out⟩
  | false =>
  cases k8 : (xk == 8) with
  | true =>
    have h2 : 2 ≤ n4 := by have := HSF.out; rw [k6, k7, k8] at this; simpa [N4.out] using this
    obtain ⟨y0, bk0, ok0, ak0, ck0, hy0, hm0, hi0, hb0, hc0, hl0⟩ := LssIn.nth (N4.out ▸ HL.out) 0 0 rfl (by rw [N4.out]; omega)
    rw [N4.out] at hi0
    have HY0 := Lib.hid hl0
    have HLA0 := Lib.hid hy0
    have HF0 := Lib.hid (HFL.out _ hm0)
    have hb0' := Nat.lt_of_lt_of_le hb0 hle
    clear hl0 hy0 hm0
    obtain ⟨y1, bk1, ok1, ak1, ck1, hy1, hm1, hi1, hb1, hc1, hl1⟩ := LssIn.nth (N4.out ▸ HL.out) 1 1 rfl (by rw [N4.out]; omega)
    rw [N4.out] at hi1
    have HY1 := Lib.hid hl1
    have HLA1 := Lib.hid hy1
    have HF1 := Lib.hid (HFL.out _ hm1)
    have hb1' := Nat.lt_of_lt_of_le hb1 hle
    clear hl1 hy1 hm1
    obtain ⟨t1, ht1⟩ : ∃ s, blockS wl s0 [117, 110, 116, 105, 108] y0 = s := ⟨_, rfl⟩
    obtain ⟨t2, ht2⟩ : ∃ s, blockS wl t1 [100, 111] y1 = s := ⟨_, rfl⟩
    have T1 := Lib.hid ht1
    have T2 := Lib.hid ht2
    clear ht1 ht2
    have HE : Hid (r = putS t2 [100, 111, 110, 101]) := Lib.hid (by rw [← HR.out, k6, k7, k8, HLA0.out, HLA1.out]; show putS (blockS wl (blockS wl s0 _ _) _ _) _ = _; rw [T1.out, T2.out])
    have HZ2 : Hid (t2.1.length ≤ lim) := Lib.hid (Nat.le_trans (putS_grow _ _) (by have := HLEN.out; rw [HE.out] at this; exact this))
    have HZ1 : Hid (t1.1.length ≤ lim) := Lib.hid (Nat.le_trans (by rw [← T2.out]; exact blockS_grow HGL.out _ _ _) HZ2.out)
    have C1 := Lib.hid (HSU.out.block2 HWL.out HGL.out (Below.refl _ _) HH.out ⟨#[117, 110, 116, 105, 108]⟩ HY0.out HF0.out (by have := HZ1.out; rw [← T1.out] at this; exact this))
    rw [show blockS wl s0 (L ⟨#[117, 110, 116, 105, 108]⟩) y0 = t1 from T1.out] at C1
    go_enter Tryz.func79, Tryz.ntmps79
    go_wp2_with fail
    rw [← HUE.out]
    refine C1.out.mono ?_
    rintro e w1 ⟨rfl, hsw1, hkw1⟩
    have HBw1 := Lib.hid (hkw1 _ _ _ HB0.out (by decide) (by decide) (by decide))
    have HSw1 := Lib.hid hsw1
    have HBN := Lib.hid (HNC.out ▸ HBw1.out)
    clear hsw1 hkw1 C1
    have p0 := HBN.out.cell 0
    have p1 := HBN.out.cell 1
    have p2 := HBN.out.cell 2
    have p3 := HBN.out.cell 3
    have p4 := HBN.out.cell 4
    have p5 := HBN.out.cell 5
    have p6 := HBN.out.cell 6
    have pl := HBN.out.lt
    simp at p0 p1 p2 p3 p4 p5 p6
    have e1 := (HSw1.out.low.cell hb1).trans hc1
    have C2 := Lib.hid (HSw1.out.block2 HWL.out HGL.out (Below.refl _ _) HH.out ⟨#[100, 111]⟩ HY1.out HF1.out (by have := HZ2.out; rw [← T2.out] at this; exact this))
    rw [show blockS wl t1 (L ⟨#[100, 111]⟩) y1 = t2 from T2.out] at C2
    go_wp2_with fail
    clear p0 p1 p2 p3 p4 p5 p6 pl HBN e1
    refine C2.out.mono ?_
    rintro e w2 ⟨rfl, hsw2, hkw2⟩
    have HBw2 := Lib.hid (hkw2 _ _ _ HBw1.out (by decide) (by decide) (by decide))
    have HSw2 := Lib.hid hsw2
    have HBN := Lib.hid (HNC.out ▸ HBw2.out)
    clear hsw2 hkw2 C2
    have p0 := HBN.out.cell 0
    have p1 := HBN.out.cell 1
    have p2 := HBN.out.cell 2
    have p3 := HBN.out.cell 3
    have p4 := HBN.out.cell 4
    have p5 := HBN.out.cell 5
    have p6 := HBN.out.cell 6
    have pl := HBN.out.lt
    simp at p0 p1 p2 p3 p4 p5 p6
    have CE := Lib.hid (HSw2.out.str (Below.refl _ _) ⟨#[100, 111, 110, 101]⟩ (by have := HLEN.out; rw [HE.out] at this; simpa [putS] using this))
    go_wp2_with fail
    refine CE.out.mono ?_
    rintro e w9 ⟨rfl, hs9⟩
    have HS9 := Lib.hid hs9
    clear hs9
    go_wp2_with fail
    go_end0
    exact ⟨rfl, by rw [HE.out]; exact HS9.out⟩
  | false =>
  cases k9 : (xk == 9) with
  | true =>
    have h2 : 1 ≤ n4 := by have := HSF.out; rw [k6, k7, k8, show (xk == 10) = false by rw [eq_of_beq k9]; rfl] at this; simpa [N4.out] using this
    obtain ⟨y0, bk0, ok0, ak0, ck0, hy0, hm0, hi0, hb0, hc0, hl0⟩ := LssIn.nth (N4.out ▸ HL.out) 0 0 rfl (by rw [N4.out]; omega)
    rw [N4.out] at hi0
    have HY0 := Lib.hid hl0
    have HLA0 := Lib.hid hy0
    have HF0 := Lib.hid (HFL.out _ hm0)
    have hb0' := Nat.lt_of_lt_of_le hb0 hle
    clear hl0 hy0 hm0
    obtain ⟨t1, ht1⟩ : ∃ s, putS s0 ([102, 111, 114, 32] ++ L x.name ++ [32, 105, 110]) = s := ⟨_, rfl⟩
    obtain ⟨t2, ht2⟩ : ∃ s, wordsS wd t1 x.words true = s := ⟨_, rfl⟩
    obtain ⟨t3, ht3⟩ : ∃ s, lineS t2 = s := ⟨_, rfl⟩
    obtain ⟨t4, ht4⟩ : ∃ s, blockS wl t3 [100, 111] y0 = s := ⟨_, rfl⟩
    have T1 := Lib.hid ht1
    have T2 := Lib.hid ht2
    have T3 := Lib.hid ht3
    have T4 := Lib.hid ht4
    clear ht1 ht2 ht3 ht4
    have HE : Hid (r = putS t4 [100, 111, 110, 101]) := Lib.hid (by rw [← HR.out, k6, k7, k8, k9, HLA0.out]; show putS (blockS wl (lineS (wordsS wd (putS s0 _) x.words true)) _ _) _ = _; rw [T1.out, T2.out, T3.out, T4.out])
    have HZ4 : Hid (t4.1.length ≤ lim) := Lib.hid (Nat.le_trans (putS_grow _ _) (by have := HLEN.out; rw [HE.out] at this; exact this))
    have HZ3 : Hid (t3.1.length ≤ lim) := Lib.hid (Nat.le_trans (by rw [← T4.out]; exact blockS_grow HGL.out _ _ _) HZ4.out)
    have HZ2 : Hid (t2.1.length ≤ lim) := Lib.hid (Nat.le_trans (by rw [← T3.out]; exact lineS_grow _) HZ3.out)
    have HZ1 : Hid (∀ k, (wordsS wd t1 (x.words.take k) true).1.length ≤ lim) := Lib.hid fun k => Nat.le_trans (words_take_le HG.out _ _ _ k) (by rw [T2.out]; exact HZ2.out)
    have ka : ∀ V : World, (Op.stringOp .add (⟨#[102, 111, 114, 32]⟩ : ByteArray) x.name).run Tryz.prog V = .ok (.string ((⟨#[102, 111, 114, 32]⟩ : ByteArray) ++ x.name)) V := fun V => run_string_add_sum V _ _ (by simp; omega)
    have kb : ∀ V : World, (Op.stringOp .add ((⟨#[102, 111, 114, 32]⟩ : ByteArray) ++ x.name) (⟨#[32, 105, 110]⟩ : ByteArray)).run Tryz.prog V = .ok (.string (((⟨#[102, 111, 114, 32]⟩ : ByteArray) ++ x.name) ++ (⟨#[32, 105, 110]⟩ : ByteArray))) V := fun V => run_string_add_sum V _ _ (by simp; omega)
    have HN0 := Lib.hid (HNC.out ▸ HB0.out)
    have CS : Hid (∀ X2, Below U.heap.size U X2 → Calls Tryz.prog 78 #[.pointer (some ⟨b, 0, none⟩), .string (((⟨#[102, 111, 114, 32]⟩ : ByteArray) ++ x.name) ++ (⟨#[32, 105, 110]⟩ : ByteArray))] X2 fun e w' => e = .returned (.tuple #[.int .i64 ((((⟨#[102, 111, 114, 32]⟩ : ByteArray) ++ x.name) ++ (⟨#[32, 105, 110]⟩ : ByteArray)).size : Nat), .nilIface]) ∧ Shown W B b dv t1 w' ∧ Keeps X2 w') := Lib.hid fun X2 hX2 => by
      have h1 := HSU.out.str2 hX2 (((⟨#[102, 111, 114, 32]⟩ : ByteArray) ++ x.name) ++ (⟨#[32, 105, 110]⟩ : ByteArray)) (by
        have h2 := HZ1.out 0
        rw [← T1.out] at h2
        simp [wordsS, putS, L_size] at h2 ⊢
        omega)
      have e : L (((⟨#[102, 111, 114, 32]⟩ : ByteArray) ++ x.name) ++ (⟨#[32, 105, 110]⟩ : ByteArray)) = [102, 111, 114, 32] ++ L x.name ++ [32, 105, 110] := by simp [L_append]
      rw [e, T1.out] at h1
      exact h1
    have hlowU := HSU.out.low
    go_enter Tryz.func79, Tryz.ntmps79
    go_wp2_with fail
    rw [← HUE.out]
    have p0 := HN0.out.cell 0
    have p1 := HN0.out.cell 1
    have p2 := HN0.out.cell 2
    have p3 := HN0.out.cell 3
    have p4 := HN0.out.cell 4
    have p5 := HN0.out.cell 5
    have p6 := HN0.out.cell 6
    have pl := HN0.out.lt
    simp at p0 p1 p2 p3 p4 p5 p6
    go_still_tail 7, (by kernel_rfl)
    go_wp2_with fail
    refine (CS.out _ (by repeat' (first | (with_reducible assumption) | (with_reducible exact Below.refl _ _) | (with_reducible refine below_drewN ?_ _) | (with_reducible refine below_bytes ?_ ?_ _) | (with_reducible refine Below.alloc ?_ ?_ _) | (with_reducible refine Below.drew ?_) | (with_reducible refine Below.setCell ?_ ?_ _) | go_size))).mono ?_
    rintro e w1 ⟨rfl, hs1, hk1⟩
    have HBw1 := Lib.hid ((Keeps.trans (Keeps.of_below (by repeat' (first | (with_reducible assumption) | (with_reducible exact Below.refl _ _) | (with_reducible refine below_drewN ?_ _) | (with_reducible refine below_bytes ?_ ?_ _) | (with_reducible refine Below.alloc ?_ ?_ _) | (with_reducible refine Below.drew ?_) | (with_reducible refine Below.setCell ?_ ?_ _) | go_size))) hk1) _ _ _ HB0.out (by decide) (by decide) (by decide))
    have HS1 := Lib.hid hs1
    clear hs1 hk1 p0 p1 p2 p3 p4 p5 p6 pl HN0 CS
    have HBN := Lib.hid (HNC.out ▸ HBw1.out)
    have p0 := HBN.out.cell 0
    have p1 := HBN.out.cell 1
    have p2 := HBN.out.cell 2
    have p3 := HBN.out.cell 3
    have p4 := HBN.out.cell 4
    have p5 := HBN.out.cell 5
    have p6 := HBN.out.cell 6
    have pl := HBN.out.lt
    simp at p0 p1 p2 p3 p4 p5 p6
    go_wp2_with fail
    clear p0 p1 p2 p3 p4 p5 p6 pl HBN
    go_loopw [80] (fun i U => ∃ j : Nat, j ≤ n2 ∧ i = .int .i64 j ∧ Shown W B b dv (wordsS wd t1 (x.words.take j) true) U ∧ Blk U W.heap.size 38 nc) (fun i _ => n2 - (intOf i).toNat)
    case atStart => exact ⟨0, Nat.zero_le _, rfl, HS1.out, HBw1.out⟩
    case round =>
      obtain ⟨j, hj, rfl, hsh, hbk⟩ := hrel
      obtain ⟨sj, hsj⟩ : ∃ s, wordsS wd t1 (x.words.take j) true = s := ⟨_, rfl⟩
      rw [hsj] at hsh
      have HSJ := Lib.hid hsj
      have HSH := Lib.hid hsh
      have HBK := Lib.hid hbk
      have hlow := hsh.low
      have hleW := hsh.le
      clear hsh hbk hsj HBw1 HS1
      have HBN := Lib.hid (HNC.out ▸ HBK.out)
      have p0 := HBN.out.cell 0
      have p1 := HBN.out.cell 1
      have p2 := HBN.out.cell 2
      have p3 := HBN.out.cell 3
      have p4 := HBN.out.cell 4
      have p5 := HBN.out.cell 5
      have p6 := HBN.out.cell 6
      have pl := HBN.out.lt
      simp at p0 p1 p2 p3 p4 p5 p6
      by_cases hlt : j < n2
      · obtain ⟨y, hy⟩ : ∃ y, x.words[j]? = .some y := ⟨_, List.getElem?_eq_getElem (by rw [N2.out]; exact hlt)⟩
        obtain ⟨b1, o, c, hi, hbB, hce, ⟨yv, rfl, hyp⟩, _⟩ := HWS.out.at 34 29 Tryz.underlying34 (by kernel_rfl) hy
        obtain ⟨a6, c6, rfl, _⟩ := hyp.shape
        have HSX : Hid (wordsS wd t1 (x.words.take (j + 1)) true = wd (putS sj [32]) y) := Lib.hid (by
          rw [take_snoc' hy, words_snoc, HSJ.out]; rfl)
        have HLX := Lib.hid (HZ1.out (j + 1))
        rw [HSX.out] at HLX
        have HFY : Hid (fw y = true) := Lib.hid (HFW.out y (List.mem_of_getElem? hy))
        have HYP := Lib.hid hyp
        have e0 := (hlow.cell hbB).trans (hce 0 _ rfl)
        have hbB' := Nat.lt_of_lt_of_le hbB hleW
        rw [Nat.add_zero] at e0
        have CB := Lib.hid (HSH.out.byte2 (Below.refl _ _) 32 (by have := Nat.le_trans (HG.out (putS sj [32]) y) HLX.out; simpa [putS] using this))
        have HE0 : Hid (∀ V, Below B W V → V.cell? ⟨b1, o, none⟩ = some (.slice a6 y.length c6)) := Lib.hid fun V hV => (hV.cell hbB).trans (hce 0 _ rfl)
        clear hy hce hyp
        go_wp2_with fail
        refine CB.out.mono ?_
        rintro e w2 ⟨rfl, hs2, hk2⟩
        have HB2 := Lib.hid (hk2 _ _ _ HBK.out (by decide) (by decide) (by decide))
        have e0 := HE0.out w2 hs2.low
        have CW := Lib.hid (hs2.word2 HWD.out (Below.refl _ _) HH.out HYP.out HFY.out HLX.out)
        clear hs2 hk2 p0 p1 p2 p3 p4 p5 p6 pl HBN
        have HBN := Lib.hid (HNC.out ▸ HB2.out)
        have p0 := HBN.out.cell 0
        have p1 := HBN.out.cell 1
        have p2 := HBN.out.cell 2
        have p3 := HBN.out.cell 3
        have p4 := HBN.out.cell 4
        have p5 := HBN.out.cell 5
        have p6 := HBN.out.cell 6
        have pl := HBN.out.lt
        simp at p0 p1 p2 p3 p4 p5 p6
        go_wp2_with fail
        refine CW.out.mono ?_
        rintro e w3 ⟨rfl, hs3, hk3⟩
        have HB3 := Lib.hid (hk3 _ _ _ HB2.out (by decide) (by decide) (by decide))
        have HS3 := Lib.hid hs3
        clear hs3 hk3
        go_wp2_with fail
        go_roundw
        case rel => exact ⟨j + 1, by omega, by go_num, by rw [HSX.out]; exact HS3.out, HB3.out⟩
        case measure => simp [intOf]; omega
      · have HTK : Hid (x.words.take j = x.words) := Lib.hid (List.take_of_length_le (by rw [N2.out]; omega))
        have HSE : Hid (sj = t2) := Lib.hid (by rw [← HSJ.out, HTK.out]; exact T2.out)
        rw [HSE.out] at HSH
        have CL := Lib.hid (HSH.out.line2 (Below.refl _ _) (by have := HZ3.out; rw [← T3.out] at this; exact this))
        rw [T3.out] at CL
        go_wp2_with fail
        clear p0 p1 p2 p3 p4 p5 p6 pl HBN
        refine CL.out.mono ?_
        rintro e w4 ⟨rfl, hsw4, hkw4⟩
        have HBw4 := Lib.hid (hkw4 _ _ _ HBK.out (by decide) (by decide) (by decide))
        have HSw4 := Lib.hid hsw4
        have HBN := Lib.hid (HNC.out ▸ HBw4.out)
        clear hsw4 hkw4 CL
        have p0 := HBN.out.cell 0
        have p1 := HBN.out.cell 1
        have p2 := HBN.out.cell 2
        have p3 := HBN.out.cell 3
        have p4 := HBN.out.cell 4
        have p5 := HBN.out.cell 5
        have p6 := HBN.out.cell 6
        have pl := HBN.out.lt
        simp at p0 p1 p2 p3 p4 p5 p6
        have e0 := (HSw4.out.low.cell hb0).trans hc0
        have C2 := Lib.hid (HSw4.out.block2 HWL.out HGL.out (Below.refl _ _) HH.out ⟨#[100, 111]⟩ HY0.out HF0.out (by have := HZ4.out; rw [← T4.out] at this; exact this))
        rw [show blockS wl t3 (L ⟨#[100, 111]⟩) y0 = t4 from T4.out] at C2
        go_wp2_with fail
        clear p0 p1 p2 p3 p4 p5 p6 pl HBN e0
        refine C2.out.mono ?_
        rintro e w5 ⟨rfl, hsw5, hkw5⟩
        have HBw5 := Lib.hid (hkw5 _ _ _ HBw4.out (by decide) (by decide) (by decide))
        have HSw5 := Lib.hid hsw5
        have HBN := Lib.hid (HNC.out ▸ HBw5.out)
        clear hsw5 hkw5 C2
        have p0 := HBN.out.cell 0
        have p1 := HBN.out.cell 1
        have p2 := HBN.out.cell 2
        have p3 := HBN.out.cell 3
        have p4 := HBN.out.cell 4
        have p5 := HBN.out.cell 5
        have p6 := HBN.out.cell 6
        have pl := HBN.out.lt
        simp at p0 p1 p2 p3 p4 p5 p6
        have CE := Lib.hid (HSw5.out.str (Below.refl _ _) ⟨#[100, 111, 110, 101]⟩ (by have := HLEN.out; rw [HE.out] at this; simpa [putS] using this))
        go_wp2_with fail
        refine CE.out.mono ?_
        rintro e w9 ⟨rfl, hs9⟩
        have HS9 := Lib.hid hs9
        clear hs9
        go_wp2_with fail
        go_end0
        exact ⟨rfl, by rw [HE.out]; exact HS9.out⟩
  | false =>
  cases k10 : (xk == 10) with
  | true =>
    have h2 : 0 < x.words.length := by have := HSF.out; rw [k6, k7, k8, k10] at this; cases hw : x.words with | nil => rw [hw] at this; simp at this | cons => simp
    have HE : Hid (r = caseS wd wl s0 x) := Lib.hid (by rw [← HR.out, k6, k7, k8, k9, k10]; rfl)
    have CA : Hid (Calls Tryz.prog 104 #[.pointer (some ⟨b, 0, none⟩), .agg #[.int .i64 xk, .string x.name, .slice a1 n1 c1, .slice a2 n2 c2, .slice a3 n3 c3, .slice a4 n4 c4, .slice a5 n5 c5]] U fun e w' => e = .returned (.tuple #[]) ∧ Shown W B b dv r w') := Lib.hid (by
      obtain ⟨dv1, ds1, g1, g2, g3⟩ := shown_st HSU.out
      have hlow := HSU.out.low
      have g4 := warms_any HWD.out HG.out HWL.out HGL.out x _ g1 (HH.out.below hlow) (HC.out.later2 hlow) h2 HFW0.out HFA.out (by rw [g2, ← HE.out]; exact HLEN.out)
      rw [g2, ← HE.out] at g4
      exact g4.mono fun e w' ⟨q1, q2⟩ => ⟨q1, q2.after g3⟩)
    clear h2
    go_enter Tryz.func79, Tryz.ntmps79
    go_wp2_with fail
    rw [← HUE.out]
    refine CA.out.mono ?_
    rintro e w2 ⟨rfl, hs2⟩
    have CE := Lib.hid (hs2.str (Below.refl _ _) ⟨#[]⟩ (by have := HLEN.out; simpa using this))
    clear hs2
    go_wp2_with fail
    refine CE.out.mono ?_
    rintro e w9 ⟨rfl, hs9⟩
    have HS9 := Lib.hid hs9
    clear hs9
    go_wp2_with fail
    go_end0
    exact ⟨rfl, by have := HS9.out; simpa [putS] using this⟩
  | false =>
  have h2 : 1 ≤ n4 := by have := HSF.out; rw [k6, k7, k8, k10] at this; simpa [N4.out] using this
  obtain ⟨y0, bk0, ok0, ak0, ck0, hy0, hm0, hi0, hb0, hc0, hl0⟩ := LssIn.nth (N4.out ▸ HL.out) 0 0 rfl (by rw [N4.out]; omega)
  rw [N4.out] at hi0
  have HY0 := Lib.hid hl0
  have HLA0 := Lib.hid hy0
  have HF0 := Lib.hid (HFL.out _ hm0)
  have hb0' := Nat.lt_of_lt_of_le hb0 hle
  clear hl0 hy0 hm0
  cases k12 : (xk == 12) with
  | true =>
    obtain ⟨t1, ht1⟩ : ∃ s, blockS wl s0 [40] y0 = s := ⟨_, rfl⟩
    have T1 := Lib.hid ht1
    clear ht1
    have HE : Hid (r = putS t1 [41]) := Lib.hid (by rw [← HR.out, k6, k7, k8, k9, k10, k12, HLA0.out]; show putS (blockS wl s0 _ _) _ = _; rw [T1.out])
    have HZ1 : Hid (t1.1.length ≤ lim) := Lib.hid (Nat.le_trans (putS_grow _ _) (by have := HLEN.out; rw [HE.out] at this; exact this))
    have C1 := Lib.hid (HSU.out.block2 HWL.out HGL.out (Below.refl _ _) HH.out ⟨#[40]⟩ HY0.out HF0.out (by have := HZ1.out; rw [← T1.out] at this; exact this))
    rw [show blockS wl s0 (L ⟨#[40]⟩) y0 = t1 from T1.out] at C1
    go_enter Tryz.func79, Tryz.ntmps79
    go_wp2_with fail
    rw [← HUE.out]
    refine C1.out.mono ?_
    rintro e w1 ⟨rfl, hsw1, hkw1⟩
    have HBw1 := Lib.hid (hkw1 _ _ _ HB0.out (by decide) (by decide) (by decide))
    have HSw1 := Lib.hid hsw1
    have HBN := Lib.hid (HNC.out ▸ HBw1.out)
    clear hsw1 hkw1 C1
    have p0 := HBN.out.cell 0
    have p1 := HBN.out.cell 1
    have p2 := HBN.out.cell 2
    have p3 := HBN.out.cell 3
    have p4 := HBN.out.cell 4
    have p5 := HBN.out.cell 5
    have p6 := HBN.out.cell 6
    have pl := HBN.out.lt
    simp at p0 p1 p2 p3 p4 p5 p6
    have CE := Lib.hid (HSw1.out.str (Below.refl _ _) ⟨#[41]⟩ (by have := HLEN.out; rw [HE.out] at this; simpa [putS] using this))
    go_wp2_with fail
    refine CE.out.mono ?_
    rintro e w9 ⟨rfl, hs9⟩
    have HS9 := Lib.hid hs9
    clear hs9
    go_wp2_with fail
    go_end0
    exact ⟨rfl, by rw [HE.out]; exact HS9.out⟩
  | false =>
    obtain ⟨t1, ht1⟩ : ∃ s, blockS wl s0 [123] y0 = s := ⟨_, rfl⟩
    have T1 := Lib.hid ht1
    clear ht1
    have HE : Hid (r = putS t1 [125]) := Lib.hid (by rw [← HR.out, k6, k7, k8, k9, k10, k12, HLA0.out]; show putS (blockS wl s0 _ _) _ = _; rw [T1.out])
    have HZ1 : Hid (t1.1.length ≤ lim) := Lib.hid (Nat.le_trans (putS_grow _ _) (by have := HLEN.out; rw [HE.out] at this; exact this))
    have C1 := Lib.hid (HSU.out.block2 HWL.out HGL.out (Below.refl _ _) HH.out ⟨#[123]⟩ HY0.out HF0.out (by have := HZ1.out; rw [← T1.out] at this; exact this))
    rw [show blockS wl s0 (L ⟨#[123]⟩) y0 = t1 from T1.out] at C1
    go_enter Tryz.func79, Tryz.ntmps79
    go_wp2_with fail
    rw [← HUE.out]
    refine C1.out.mono ?_
    rintro e w1 ⟨rfl, hsw1, hkw1⟩
    have HBw1 := Lib.hid (hkw1 _ _ _ HB0.out (by decide) (by decide) (by decide))
    have HSw1 := Lib.hid hsw1
    have HBN := Lib.hid (HNC.out ▸ HBw1.out)
    clear hsw1 hkw1 C1
    have p0 := HBN.out.cell 0
    have p1 := HBN.out.cell 1
    have p2 := HBN.out.cell 2
    have p3 := HBN.out.cell 3
    have p4 := HBN.out.cell 4
    have p5 := HBN.out.cell 5
    have p6 := HBN.out.cell 6
    have pl := HBN.out.lt
    simp at p0 p1 p2 p3 p4 p5 p6
    have CE := Lib.hid (HSw1.out.str (Below.refl _ _) ⟨#[125]⟩ (by have := HLEN.out; rw [HE.out] at this; simpa [putS] using this))
    go_wp2_with fail
    refine CE.out.mono ?_
    rintro e w9 ⟨rfl, hs9⟩
    have HS9 := Lib.hid hs9
    clear hs9
    go_wp2_with fail
    go_end0
    exact ⟨rfl, by rw [HE.out]; exact HS9.out⟩
end Go.Proofs.YtnackmnoldkihaaGreatDoor
/-
  The walk of the writer's node.
-/
namespace Go.Proofs.YtnackmnoldkihaaGreatDoor
open Go.RowKit

set_option maxHeartbeats 4000000 in
set_option maxRecDepth 100000 in
theorem wnode_any {d : Nat} {wd : St → List Pt → St} {fw : List Pt → Bool} (hwd : WordW d wd fw) (hg : Grow2 wd) {wl : St → List Nd → St} {fl : List Nd → Bool} (hwl : ListW d wl fl) (hgl : Grow2 wl) {nd : St → Nd → St} {fn : Nd → Bool} (hnd : ∀ d', d = d' + 1 → NodeW d' nd fn) (hgn : Grow2 nd) : NodeW d (nodeS wd wl nd) (nodeF fw fl fn) := by
  intro W B b dv out ds x c hH h hc hf hlen
  rw [nodeF, Bool.and_eq_true, Bool.and_eq_true, Bool.and_eq_true, Bool.and_eq_true, Bool.and_eq_true, Bool.and_eq_true] at hf
  obtain ⟨hsh, hfas, hfw, hfr, hfl, hfn, hfa⟩ := hf
  have HC := Lib.hid hc
  obtain ⟨a1, c1, a2, c2, a3, c3, a4, c4, a5, c5, rfl, hxz, ⟨hn1, hn2, hn3, hn4, hn5⟩, _, _, hRd, hLs, _⟩ := hc.open
  obtain ⟨n1, hl1⟩ : ∃ n, x.assigns.length = n := ⟨_, rfl⟩
  obtain ⟨n2, hl2⟩ : ∃ n, x.words.length = n := ⟨_, rfl⟩
  obtain ⟨n3, hl3⟩ : ∃ n, x.redirs.length = n := ⟨_, rfl⟩
  obtain ⟨n4, hl4⟩ : ∃ n, x.lists.length = n := ⟨_, rfl⟩
  obtain ⟨n5, hl5⟩ : ∃ n, x.arms.length = n := ⟨_, rfl⟩
  rw [hl3] at hn3 hRd
  rw [hl4] at hn4 hLs
  rw [hl1, hl2, hl3, hl4, hl5] at HC ⊢
  have HL := Lib.hid hLs
  have HRS := Lib.hid hRd
  have HH := Lib.hid hH
  have HWD := Lib.hid hwd
  have HWL := Lib.hid hwl
  have HG := Lib.hid hg
  have HGL := Lib.hid hgl
  have HW := Lib.hid h
  have HFW := Lib.hid (List.all_eq_true.1 hfw)
  have HFW0 := Lib.hid hfw
  have HFL := Lib.hid (List.all_eq_true.1 hfl)
  have HFA := Lib.hid hfa
  have N4 := Lib.hid hl4
  obtain ⟨s0, hs0⟩ : ∃ s, stOf out ds = s := ⟨_, rfl⟩
  rw [hs0] at hlen ⊢
  have HS0 := Lib.hid hs0
  obtain ⟨r, hr⟩ : ∃ r, nodeS wd wl nd s0 x = r := ⟨_, rfl⟩
  rw [hr] at hlen ⊢
  have HLEN := Lib.hid hlen
  obtain ⟨xk, hxk⟩ : ∃ k, x.kind = k := ⟨_, rfl⟩
  rw [nodeS] at hr
  rw [hxk] at hr HC ⊢
  have HR := Lib.hid hr
  have HSF := Lib.hid hsh
  have HFN := Lib.hid hfn
  have HND := Lib.hid hnd
  have HGN := Lib.hid hgn
  have HFR := Lib.hid hfr
  have HFA0 := Lib.hid hfas
  have HFL0 := Lib.hid hfl
  have HXK := Lib.hid hxk
  have hle := h.le
  clear hl1 hl2 hl3 hl4 hl5 hRd hLs hH hwd hwl hg hgl h hfa hfw hfl hlen hc hs0 hr hxk hsh hfn hnd hgn hfr hfas
  obtain ⟨nc, hnc⟩ : ∃ cs : Array Value, cs = #[.int .i64 xk, .string x.name, .slice a1 n1 c1, .slice a2 n2 c2, .slice a3 n3 c3, .slice a4 n4 c4, .slice a5 n5 c5] := ⟨_, rfl⟩
  have HNC := Lib.hid hnc
  obtain ⟨U, hU⟩ : ∃ U, U = W.alloc (.cells nc 38) := ⟨_, rfl⟩
  have HB0 : Hid (Blk U W.heap.size 38 nc) := Lib.hid (by rw [hU]; exact Blk.at rfl)
  have HBL : Hid (Below W.heap.size W U) := Lib.hid (by rw [hU]; exact (Below.refl _ _).alloc (Nat.le_refl _) _)
  rw [hnc] at hU
  have HUE := Lib.hid hU
  clear hU hnc
  have HSU : Hid (Shown W B b dv s0 U) := Lib.hid (by have := (Shown.start HW.out).later HBL.out; rwa [HS0.out] at this)
  have CR : Hid (∀ (t : St) (X : World), Shown W B b dv t X → (redirsS wd t x.redirs true).1.length ≤ lim → Calls Tryz.prog 80 #[.pointer (some ⟨b, 0, none⟩), .slice a3 n3 c3, .bool true] X fun e w' => e = .returned (.tuple #[]) ∧ Shown W B b dv (redirsS wd t x.redirs true) w') := Lib.hid fun t X ht hlen => by
    obtain ⟨dv1, ds1, h1, h2, h3⟩ := shown_st ht
    have hlow1 := ht.low
    have h4 := wredirs_any HWD.out HG.out h1 (HH.out.below hlow1) (HRS.out.imp (fun xs hs => hs.below hlow1) fun _ _ _ h => h.keep fun _ _ _ _ hs => hs.below hlow1) HFR.out true (by rw [h2]; exact hlen)
    rw [h2] at h4
    exact h4.mono fun e w' ⟨g1, g2⟩ => ⟨g1, g2.after h3⟩
  have hlowU := HSU.out.low
  cases k1 : (xk == 1) with
  | true =>
    have HE : Hid (r = simpleS wd s0 x) := Lib.hid (by rw [← HR.out, k1]; rfl)
    have CA : Hid (Calls Tryz.prog 76 #[.pointer (some ⟨b, 0, none⟩), .agg #[.int .i64 xk, .string x.name, .slice a1 n1 c1, .slice a2 n2 c2, .slice a3 n3 c3, .slice a4 n4 c4, .slice a5 n5 c5]] U fun e w' => e = .returned (.tuple #[]) ∧ Shown W B b dv r w') := Lib.hid (by
      obtain ⟨dv1, ds1, g1, g2, g3⟩ := shown_st HSU.out
      have g4 := wsimple_any HWD.out HG.out x _ g1 (HH.out.below hlowU) (HC.out.later2 hlowU) HFA0.out HFW0.out HFR.out (by rw [g2, ← HE.out]; exact HLEN.out)
      rw [g2, ← HE.out] at g4
      exact g4.mono fun e w' ⟨q1, q2⟩ => ⟨q1, q2.after g3⟩)
    go_enter Tryz.func61, Tryz.ntmps61
    go_wp2_with fail
    rw [← HUE.out]
    refine CA.out.mono ?_
    rintro e w9 ⟨rfl, hs9⟩
    have HS9 := Lib.hid hs9
    clear hs9
    go_wp2_with fail
    refine bodyPost_ret (results_none rfl _ _ _) rfl ?_
    exact ⟨rfl, HS9.out⟩
  | false =>
  have HE : Hid (r = redirsS wd (bodyS wd wl nd s0 x) x.redirs true) := Lib.hid (by rw [← HR.out, k1]; rfl)
  have HZ : Hid ((redirsS wd (bodyS wd wl nd s0 x) x.redirs true).1.length ≤ lim) := Lib.hid (by rw [← HE.out]; exact HLEN.out)
  have HZB : Hid ((bodyS wd wl nd s0 x).1.length ≤ lim) := Lib.hid (Nat.le_trans (redirsS_grow HG.out _ _ _) HZ.out)
  have hbx := HXK.out
  rw [bodyS, hbx] at HE HZ HZB
  clear hbx
  cases k2 : (xk == 2) with
  | true =>
    have h2 : x.lists.all (fun l => !l.isEmpty) = true := by have := HSF.out; rw [shapeF, HXK.out, k1, k2] at this; exact this
    have CJ := Lib.hid (HSU.out.twice (Below.refl _ _) fun dv1 h1 => wjoin_any HND.out HGN.out h1 (Below.refl _ _) (HH.out.below hlowU) ⟨#[32, 124, 32]⟩ x.lists _ (LssIn.keep (N4.out ▸ HL.out) fun _ _ _ _ hs => hs.below hlowU) HFN.out h2 (by have := HZB.out; rw [k2] at this; exact this))
    rw [N4.out] at CJ
    rw [k2] at HE HZ
    clear h2
    go_enter Tryz.func61, Tryz.ntmps61
    go_wp2_with fail
    rw [← HUE.out]
    refine CJ.out.mono ?_
    rintro e w7 ⟨rfl, hs7, hk7⟩
    have HB7 := Lib.hid (hk7 _ _ _ HB0.out (by decide) (by decide) (by decide))
    have HBN := Lib.hid (HNC.out ▸ HB7.out)
    have CQ := Lib.hid (CR.out _ _ hs7 HZ.out)
    clear hs7 hk7 CJ
    have p0 := HBN.out.cell 0
    have p1 := HBN.out.cell 1
    have p2 := HBN.out.cell 2
    have p3 := HBN.out.cell 3
    have p4 := HBN.out.cell 4
    have p5 := HBN.out.cell 5
    have p6 := HBN.out.cell 6
    have pl := HBN.out.lt
    simp at p0 p1 p2 p3 p4 p5 p6
    go_wp2_with fail
    refine CQ.out.mono ?_
    rintro e w9 ⟨rfl, hs9⟩
    have HS9 := Lib.hid hs9
    clear hs9
    go_wp2_with fail
    go_end0
    exact ⟨rfl, by rw [HE.out]; exact HS9.out⟩
  | false =>
  cases k3 : (xk == 3) with
  | true =>
    have h2 : x.lists.all (fun l => !l.isEmpty) = true := by have := HSF.out; rw [shapeF, HXK.out, k1, k2, k3] at this; exact this
    have CJ := Lib.hid (HSU.out.twice (Below.refl _ _) fun dv1 h1 => wjoin_any HND.out HGN.out h1 (Below.refl _ _) (HH.out.below hlowU) ⟨#[32, 38, 38, 32]⟩ x.lists _ (LssIn.keep (N4.out ▸ HL.out) fun _ _ _ _ hs => hs.below hlowU) HFN.out h2 (by have := HZB.out; rw [k2, k3] at this; exact this))
    rw [N4.out] at CJ
    rw [k2, k3] at HE HZ
    clear h2
    go_enter Tryz.func61, Tryz.ntmps61
    go_wp2_with fail
    rw [← HUE.out]
    refine CJ.out.mono ?_
    rintro e w7 ⟨rfl, hs7, hk7⟩
    have HB7 := Lib.hid (hk7 _ _ _ HB0.out (by decide) (by decide) (by decide))
    have HBN := Lib.hid (HNC.out ▸ HB7.out)
    have CQ := Lib.hid (CR.out _ _ hs7 HZ.out)
    clear hs7 hk7 CJ
    have p0 := HBN.out.cell 0
    have p1 := HBN.out.cell 1
    have p2 := HBN.out.cell 2
    have p3 := HBN.out.cell 3
    have p4 := HBN.out.cell 4
    have p5 := HBN.out.cell 5
    have p6 := HBN.out.cell 6
    have pl := HBN.out.lt
    simp at p0 p1 p2 p3 p4 p5 p6
    go_wp2_with fail
    refine CQ.out.mono ?_
    rintro e w9 ⟨rfl, hs9⟩
    have HS9 := Lib.hid hs9
    clear hs9
    go_wp2_with fail
    go_end0
    exact ⟨rfl, by rw [HE.out]; exact HS9.out⟩
  | false =>
  cases k4 : (xk == 4) with
  | true =>
    have h2 : x.lists.all (fun l => !l.isEmpty) = true := by have := HSF.out; rw [shapeF, HXK.out, k1, k2, k3, k4] at this; exact this
    have CJ := Lib.hid (HSU.out.twice (Below.refl _ _) fun dv1 h1 => wjoin_any HND.out HGN.out h1 (Below.refl _ _) (HH.out.below hlowU) ⟨#[32, 124, 124, 32]⟩ x.lists _ (LssIn.keep (N4.out ▸ HL.out) fun _ _ _ _ hs => hs.below hlowU) HFN.out h2 (by have := HZB.out; rw [k2, k3, k4] at this; exact this))
    rw [N4.out] at CJ
    rw [k2, k3, k4] at HE HZ
    clear h2
    go_enter Tryz.func61, Tryz.ntmps61
    go_wp2_with fail
    rw [← HUE.out]
    refine CJ.out.mono ?_
    rintro e w7 ⟨rfl, hs7, hk7⟩
    have HB7 := Lib.hid (hk7 _ _ _ HB0.out (by decide) (by decide) (by decide))
    have HBN := Lib.hid (HNC.out ▸ HB7.out)
    have CQ := Lib.hid (CR.out _ _ hs7 HZ.out)
    clear hs7 hk7 CJ
    have p0 := HBN.out.cell 0
    have p1 := HBN.out.cell 1
    have p2 := HBN.out.cell 2
    have p3 := HBN.out.cell 3
    have p4 := HBN.out.cell 4
    have p5 := HBN.out.cell 5
    have p6 := HBN.out.cell 6
    have pl := HBN.out.lt
    simp at p0 p1 p2 p3 p4 p5 p6
    go_wp2_with fail
    refine CQ.out.mono ?_
    rintro e w9 ⟨rfl, hs9⟩
    have HS9 := Lib.hid hs9
    clear hs9
    go_wp2_with fail
    go_end0
    exact ⟨rfl, by rw [HE.out]; exact HS9.out⟩
  | false =>
  cases k5 : (xk == 5) with
  | true =>
    have hl0 : ∃ y, listAt x 0 = y ∧ y ∈ x.lists ∧ 0 < y.length ∧ 0 < x.lists.length := by
      have h3 := HSF.out
      rw [shapeF, HXK.out, show (xk == 1) = false from k1, k2, k3, k4, k5] at h3
      rw [listAt]
      cases hq : x.lists with
      | nil => rw [hq] at h3; simp at h3
      | cons y l =>
        rw [hq] at h3
        refine ⟨y, rfl, by simp, ?_, by simp⟩
        cases y with
        | nil => simp at h3
        | cons => simp
    obtain ⟨yq, hyq, _, hyl, hn40⟩ := hl0
    obtain ⟨y0, bk0, ok0, ak0, ck0, hy0, hm0, hi0, hb0, hc0, hl0⟩ := LssIn.nth (N4.out ▸ HL.out) 0 0 rfl hn40
    obtain rfl : yq = y0 := hyq.symm.trans hy0
    obtain ⟨xx, rr, d', bk2, ok2, c2', hyx, hdd, hi2, hb2, hce2, hC⟩ := hl0.head hyl
    rw [N4.out] at hi0
    have HND2 := Lib.hid (HND.out d' hdd)
    have HFX : Hid (fn xx = true) := Lib.hid (by
      have h1 := List.all_eq_true.1 HFN.out yq hm0
      rw [hyx] at h1
      exact List.all_eq_true.1 h1 xx (by simp))
    have HONE : Hid (∀ t : St, oneS nd t (listAt x 0) = nd t xx) := Lib.hid fun t => by rw [hyq, hyx]; rfl
    have HCX := Lib.hid hC
    obtain ⟨u1, v1, u2, v2, u3, v3, u4, v4, u5, v5, rfl, _⟩ := hC.open
    obtain ⟨ny, hny⟩ : ∃ n, yq.length = n := ⟨_, rfl⟩
    rw [hny] at hc0 hi2
    have HCE : Hid (∀ V, Below B W V → V.cell? ⟨bk0, ok0, none⟩ = some (.slice ak0 ny ck0) ∧ V.cell? ⟨bk2, ok2, none⟩ = some (.int .i64 xx.kind) ∧ V.cell? ⟨bk2, ok2 + 1, none⟩ = some (.string xx.name) ∧ V.cell? ⟨bk2, ok2 + 2, none⟩ = some (.slice u1 xx.assigns.length v1) ∧ V.cell? ⟨bk2, ok2 + 3, none⟩ = some (.slice u2 xx.words.length v2) ∧ V.cell? ⟨bk2, ok2 + 4, none⟩ = some (.slice u3 xx.redirs.length v3) ∧ V.cell? ⟨bk2, ok2 + 5, none⟩ = some (.slice u4 xx.lists.length v4) ∧ V.cell? ⟨bk2, ok2 + 6, none⟩ = some (.slice u5 xx.arms.length v5)) := Lib.hid fun V hV =>
      ⟨(hV.cell hb0).trans hc0, (hV.cell hb2).trans (hce2 0 _ rfl), (hV.cell hb2).trans (hce2 1 _ rfl), (hV.cell hb2).trans (hce2 2 _ rfl), (hV.cell hb2).trans (hce2 3 _ rfl), (hV.cell hb2).trans (hce2 4 _ rfl), (hV.cell hb2).trans (hce2 5 _ rfl), (hV.cell hb2).trans (hce2 6 _ rfl)⟩
    have hty : 0 < ny := by rw [← hny]; exact hyl
    clear hyq hyl hn40 hy0 hm0 hc0 hyx hdd hce2 hC hny
    rw [k2, k3, k4, k5] at HE HZ HZB
    rw [show (bif false then joinS nd [32, 124, 32] s0 x.lists false else bif false then joinS nd [32, 38, 38, 32] s0 x.lists false else bif false then joinS nd [32, 124, 124, 32] s0 x.lists false else bif true then oneS nd (putS s0 [33, 32]) (listAt x 0) else bif xk == 11 then oneS nd (putS s0 (L x.name ++ [40, 41, 32])) (listAt x 0) else compS wd wl s0 x) = nd (putS s0 [33, 32]) xx from HONE.out _] at HE HZ HZB
    have C1 := Lib.hid (HSU.out.str2 (Below.refl _ _) ⟨#[33, 32]⟩ (by have := Nat.le_trans (HGN.out (putS s0 [33, 32]) xx) HZB.out; simpa [putS] using this))
    go_enter Tryz.func61, Tryz.ntmps61
    go_wp2_with fail
    rw [← HUE.out]
    refine C1.out.mono ?_
    rintro e w1 ⟨rfl, hs1, hk1⟩
    have HBw1 := Lib.hid (hk1 _ _ _ HB0.out (by decide) (by decide) (by decide))
    have HSw1 := Lib.hid hs1
    clear hs1 hk1 C1
    obtain ⟨e0, g0, g1, g2, g3, g4, g5, g6⟩ := HCE.out _ HSw1.out.low
    have CN := Lib.hid (HSw1.out.twice (Below.refl _ _) fun dv1 h1 => h1.node HND2.out (Below.refl _ _) (HH.out.below HSw1.out.low) (HCX.out.later2 HSw1.out.low) HFX.out HZB.out)
    have HBN := Lib.hid (HNC.out ▸ HBw1.out)
    have p0 := HBN.out.cell 0
    have p1 := HBN.out.cell 1
    have p2 := HBN.out.cell 2
    have p3 := HBN.out.cell 3
    have p4 := HBN.out.cell 4
    have p5 := HBN.out.cell 5
    have p6 := HBN.out.cell 6
    have pl := HBN.out.lt
    simp at p0 p1 p2 p3 p4 p5 p6
    go_wp2_with fail
    clear p0 p1 p2 p3 p4 p5 p6 pl HBN e0 g0 g1 g2 g3 g4 g5 g6
    refine CN.out.mono ?_
    rintro e w7 ⟨rfl, hs7, hk7⟩
    have HB7 := Lib.hid (hk7 _ _ _ HBw1.out (by decide) (by decide) (by decide))
    have HBN := Lib.hid (HNC.out ▸ HB7.out)
    have CQ := Lib.hid (CR.out _ _ hs7 HZ.out)
    clear hs7 hk7 CN
    have p0 := HBN.out.cell 0
    have p1 := HBN.out.cell 1
    have p2 := HBN.out.cell 2
    have p3 := HBN.out.cell 3
    have p4 := HBN.out.cell 4
    have p5 := HBN.out.cell 5
    have p6 := HBN.out.cell 6
    have pl := HBN.out.lt
    simp at p0 p1 p2 p3 p4 p5 p6
    go_wp2_with fail
    refine CQ.out.mono ?_
    rintro e w9 ⟨rfl, hs9⟩
    have HS9 := Lib.hid hs9
    clear hs9
    go_wp2_with fail
    go_end0
    exact ⟨rfl, by rw [HE.out]; exact HS9.out⟩
  | false =>
  cases k11 : (xk == 11) with
  | true =>
    have hl0 : ∃ y, listAt x 0 = y ∧ y ∈ x.lists ∧ 0 < y.length ∧ 0 < x.lists.length := by
      have h3 := HSF.out
      rw [shapeF, HXK.out, show (xk == 1) = false from k1, k2, k3, k4, k5, k11] at h3
      rw [listAt]
      cases hq : x.lists with
      | nil => rw [hq] at h3; simp at h3
      | cons y l =>
        rw [hq] at h3
        refine ⟨y, rfl, by simp, ?_, by simp⟩
        cases y with
        | nil => simp at h3
        | cons => simp
    obtain ⟨yq, hyq, _, hyl, hn40⟩ := hl0
    obtain ⟨y0, bk0, ok0, ak0, ck0, hy0, hm0, hi0, hb0, hc0, hl0⟩ := LssIn.nth (N4.out ▸ HL.out) 0 0 rfl hn40
    obtain rfl : yq = y0 := hyq.symm.trans hy0
    obtain ⟨xx, rr, d', bk2, ok2, c2', hyx, hdd, hi2, hb2, hce2, hC⟩ := hl0.head hyl
    rw [N4.out] at hi0
    have HND2 := Lib.hid (HND.out d' hdd)
    have HFX : Hid (fn xx = true) := Lib.hid (by
      have h1 := List.all_eq_true.1 HFN.out yq hm0
      rw [hyx] at h1
      exact List.all_eq_true.1 h1 xx (by simp))
    have HONE : Hid (∀ t : St, oneS nd t (listAt x 0) = nd t xx) := Lib.hid fun t => by rw [hyq, hyx]; rfl
    have HCX := Lib.hid hC
    obtain ⟨u1, v1, u2, v2, u3, v3, u4, v4, u5, v5, rfl, _⟩ := hC.open
    obtain ⟨ny, hny⟩ : ∃ n, yq.length = n := ⟨_, rfl⟩
    rw [hny] at hc0 hi2
    have HCE : Hid (∀ V, Below B W V → V.cell? ⟨bk0, ok0, none⟩ = some (.slice ak0 ny ck0) ∧ V.cell? ⟨bk2, ok2, none⟩ = some (.int .i64 xx.kind) ∧ V.cell? ⟨bk2, ok2 + 1, none⟩ = some (.string xx.name) ∧ V.cell? ⟨bk2, ok2 + 2, none⟩ = some (.slice u1 xx.assigns.length v1) ∧ V.cell? ⟨bk2, ok2 + 3, none⟩ = some (.slice u2 xx.words.length v2) ∧ V.cell? ⟨bk2, ok2 + 4, none⟩ = some (.slice u3 xx.redirs.length v3) ∧ V.cell? ⟨bk2, ok2 + 5, none⟩ = some (.slice u4 xx.lists.length v4) ∧ V.cell? ⟨bk2, ok2 + 6, none⟩ = some (.slice u5 xx.arms.length v5)) := Lib.hid fun V hV =>
      ⟨(hV.cell hb0).trans hc0, (hV.cell hb2).trans (hce2 0 _ rfl), (hV.cell hb2).trans (hce2 1 _ rfl), (hV.cell hb2).trans (hce2 2 _ rfl), (hV.cell hb2).trans (hce2 3 _ rfl), (hV.cell hb2).trans (hce2 4 _ rfl), (hV.cell hb2).trans (hce2 5 _ rfl), (hV.cell hb2).trans (hce2 6 _ rfl)⟩
    have hty : 0 < ny := by rw [← hny]; exact hyl
    clear hyq hyl hn40 hy0 hm0 hc0 hyx hdd hce2 hC hny
    rw [k2, k3, k4, k5, k11] at HE HZ HZB
    rw [show (bif false then joinS nd [32, 124, 32] s0 x.lists false else bif false then joinS nd [32, 38, 38, 32] s0 x.lists false else bif false then joinS nd [32, 124, 124, 32] s0 x.lists false else bif false then oneS nd (putS s0 [33, 32]) (listAt x 0) else bif true then oneS nd (putS s0 (L x.name ++ [40, 41, 32])) (listAt x 0) else compS wd wl s0 x) = nd (putS s0 (L x.name ++ [40, 41, 32])) xx from HONE.out _] at HE HZ HZB
    have ka : ∀ V : World, (Op.stringOp .add x.name (⟨#[40, 41, 32]⟩ : ByteArray)).run Tryz.prog V = .ok (.string (x.name ++ (⟨#[40, 41, 32]⟩ : ByteArray))) V := fun V => run_string_add_sum V _ _ (by simp; omega)
    have HN0 := Lib.hid (HNC.out ▸ HB0.out)
    have CS : Hid (∀ X2, Below U.heap.size U X2 → Calls Tryz.prog 78 #[.pointer (some ⟨b, 0, none⟩), .string (x.name ++ (⟨#[40, 41, 32]⟩ : ByteArray))] X2 fun e w' => e = .returned (.tuple #[.int .i64 ((x.name ++ (⟨#[40, 41, 32]⟩ : ByteArray)).size : Nat), .nilIface]) ∧ Shown W B b dv (putS s0 (L x.name ++ [40, 41, 32])) w' ∧ Keeps X2 w') := Lib.hid fun X2 hX2 => by
      have h1 := HSU.out.str2 hX2 (x.name ++ (⟨#[40, 41, 32]⟩ : ByteArray)) (by
        have h2 := Nat.le_trans (HGN.out (putS s0 (L x.name ++ [40, 41, 32])) xx) HZB.out
        simp [putS, L_size] at h2 ⊢
        omega)
      have e : L (x.name ++ (⟨#[40, 41, 32]⟩ : ByteArray)) = L x.name ++ [40, 41, 32] := by simp [L_append]
      rw [e] at h1
      exact h1
    go_enter Tryz.func61, Tryz.ntmps61
    go_wp2_with fail
    rw [← HUE.out]
    have p0 := HN0.out.cell 0
    have p1 := HN0.out.cell 1
    have p2 := HN0.out.cell 2
    have p3 := HN0.out.cell 3
    have p4 := HN0.out.cell 4
    have p5 := HN0.out.cell 5
    have p6 := HN0.out.cell 6
    have pl := HN0.out.lt
    simp at p0 p1 p2 p3 p4 p5 p6
    go_still_tail 6, (by kernel_rfl)
    go_wp2_with fail
    refine (CS.out _ (by repeat' (first | (with_reducible assumption) | (with_reducible exact Below.refl _ _) | (with_reducible refine below_drewN ?_ _) | (with_reducible refine below_bytes ?_ ?_ _) | (with_reducible refine Below.alloc ?_ ?_ _) | (with_reducible refine Below.drew ?_) | (with_reducible refine Below.setCell ?_ ?_ _) | go_size))).mono ?_
    rintro e w1 ⟨rfl, hs1, hk1⟩
    have HBw1 := Lib.hid ((Keeps.trans (Keeps.of_below (by repeat' (first | (with_reducible assumption) | (with_reducible exact Below.refl _ _) | (with_reducible refine below_drewN ?_ _) | (with_reducible refine below_bytes ?_ ?_ _) | (with_reducible refine Below.alloc ?_ ?_ _) | (with_reducible refine Below.drew ?_) | (with_reducible refine Below.setCell ?_ ?_ _) | go_size))) hk1) _ _ _ HB0.out (by decide) (by decide) (by decide))
    have HSw1 := Lib.hid hs1
    clear hs1 hk1 p0 p1 p2 p3 p4 p5 p6 pl HN0 CS
    obtain ⟨e0, g0, g1, g2, g3, g4, g5, g6⟩ := HCE.out _ HSw1.out.low
    have CN := Lib.hid (HSw1.out.twice (Below.refl _ _) fun dv1 h1 => h1.node HND2.out (Below.refl _ _) (HH.out.below HSw1.out.low) (HCX.out.later2 HSw1.out.low) HFX.out HZB.out)
    have HBN := Lib.hid (HNC.out ▸ HBw1.out)
    have p0 := HBN.out.cell 0
    have p1 := HBN.out.cell 1
    have p2 := HBN.out.cell 2
    have p3 := HBN.out.cell 3
    have p4 := HBN.out.cell 4
    have p5 := HBN.out.cell 5
    have p6 := HBN.out.cell 6
    have pl := HBN.out.lt
    simp at p0 p1 p2 p3 p4 p5 p6
    go_wp2_with fail
    clear p0 p1 p2 p3 p4 p5 p6 pl HBN e0 g0 g1 g2 g3 g4 g5 g6
    refine CN.out.mono ?_
    rintro e w7 ⟨rfl, hs7, hk7⟩
    have HB7 := Lib.hid (hk7 _ _ _ HBw1.out (by decide) (by decide) (by decide))
    have HBN := Lib.hid (HNC.out ▸ HB7.out)
    have CQ := Lib.hid (CR.out _ _ hs7 HZ.out)
    clear hs7 hk7 CN
    have p0 := HBN.out.cell 0
    have p1 := HBN.out.cell 1
    have p2 := HBN.out.cell 2
    have p3 := HBN.out.cell 3
    have p4 := HBN.out.cell 4
    have p5 := HBN.out.cell 5
    have p6 := HBN.out.cell 6
    have pl := HBN.out.lt
    simp at p0 p1 p2 p3 p4 p5 p6
    go_wp2_with fail
    refine CQ.out.mono ?_
    rintro e w9 ⟨rfl, hs9⟩
    have HS9 := Lib.hid hs9
    clear hs9
    go_wp2_with fail
    go_end0
    exact ⟨rfl, by rw [HE.out]; exact HS9.out⟩
  | false =>
    rw [k2, k3, k4, k5, k11] at HE HZ HZB
    have CC := Lib.hid (HSU.out.twice (Below.refl _ _) fun dv1 h1 => by
      obtain ⟨dv2, ds2, g1, g2, g3⟩ := shown_st h1
      have g4 := wcompound_any HWD.out HG.out HWL.out HGL.out x _ g1 (HH.out.below hlowU) (HC.out.later2 hlowU) HSF.out (by rw [HXK.out, k1, k2, k3, k4]; rfl) (by rw [HXK.out, k5, k11]; rfl) HFW0.out HFL0.out HFA.out (by rw [g2]; exact HZB.out)
      rw [g2] at g4
      exact g4.mono fun e w' ⟨q1, q2⟩ => ⟨q1, q2.after g3⟩)
    go_enter Tryz.func61, Tryz.ntmps61
    go_wp2_with fail
    rw [← HUE.out]
    refine CC.out.mono ?_
    rintro e w7 ⟨rfl, hs7, hk7⟩
    have HB7 := Lib.hid (hk7 _ _ _ HB0.out (by decide) (by decide) (by decide))
    have HBN := Lib.hid (HNC.out ▸ HB7.out)
    have CQ := Lib.hid (CR.out _ _ hs7 HZ.out)
    clear hs7 hk7 CC
    have p0 := HBN.out.cell 0
    have p1 := HBN.out.cell 1
    have p2 := HBN.out.cell 2
    have p3 := HBN.out.cell 3
    have p4 := HBN.out.cell 4
    have p5 := HBN.out.cell 5
    have p6 := HBN.out.cell 6
    have pl := HBN.out.lt
    simp at p0 p1 p2 p3 p4 p5 p6
    go_wp2_with fail
    refine CQ.out.mono ?_
    rintro e w9 ⟨rfl, hs9⟩
    have HS9 := Lib.hid hs9
    clear hs9
    go_wp2_with fail
    go_end0
    exact ⟨rfl, by rw [HE.out]; exact HS9.out⟩
end Go.Proofs.YtnackmnoldkihaaGreatDoor
namespace Go.Proofs.YtnackmnoldkihaaGreatDoor
open Go.RowKit

theorem word_zero : WordW 0 (fun s _ => s) (fun _ => true) := by
  intro W B b dv out ds l v hH h hl _ hlen
  rw [PtsIn] at hl
  obtain rfl := hl.zero
  have h1 : PtsIn W B (0 + 1) [] v := by
    rw [PtsIn.succ]
    exact hl.imp (fun _ hs => hs) fun _ _ _ h => h.elim
  exact wword_any 0 (fun s _ => s) (fun _ => false) (fun _ _ => Nat.le_refl _) (fun _ _ _ _ _ _ _ _ _ _ _ hf => Bool.noConfusion hf) W B b dv out ds [] v hH h h1 rfl hlen
theorem list_zero : ListW 0 (fun s _ => s) (fun _ => true) := by
  intro W B b dv out ds l v hH h hl _ hlen
  rw [NdsIn] at hl
  obtain rfl := hl.zero
  have h1 : NdsIn W B (0 + 1) [] v := by
    rw [NdsIn.succ]
    exact hl.imp (fun _ hs => hs) fun _ _ _ h => h.elim
  exact wlist_any 0 (fun s _ => s) (fun _ => false) (fun _ _ => Nat.le_refl _) (fun _ _ _ _ _ _ _ _ _ _ _ hf => Bool.noConfusion hf) W B b dv out ds [] v hH h h1 rfl hlen

/-- word, list, node. -/
theorem levW : ∀ d, WordW d (levS d).1 (levF d).1 ∧ ListW d (levS d).2.1 (levF d).2.1 ∧ NodeW d (levS d).2.2 (levF d).2.2
  | 0 => ⟨word_zero, list_zero, wnode_any word_zero (fun _ _ => Nat.le_refl _) list_zero (fun _ _ => Nat.le_refl _) (fun d' h => by omega) (fun _ _ => Nat.le_refl _)⟩
  | d + 1 => by
    obtain ⟨h1, h2, h3⟩ := levW d
    obtain ⟨g1, g2, g3⟩ := levS_grow d
    obtain ⟨k1, k2, k3⟩ := levS_grow (d + 1)
    have hp := wpart_any d _ _ _ _ g1 g2 h1 h2
    have hw : WordW (d + 1) (levS (d + 1)).1 (levF (d + 1)).1 := wword_any d _ _ (partS_grow g1 g2) hp
    have hl : ListW (d + 1) (levS (d + 1)).2.1 (levF (d + 1)).2.1 := wlist_any d _ _ g3 h3
    exact ⟨hw, hl, wnode_any hw k1 hl k2 (fun d' h => by have e : d' = d := Nat.succ.inj h.symm; rw [e]; exact h3) g3⟩
end Go.Proofs.YtnackmnoldkihaaGreatDoor
