/-
  The walks of the writer's join and arms.
-/
import Derived.Test.YtnackmnoldkihaaGreatDoorW17
set_option linter.unusedVariables false
set_option linter.unusedSimpArgs false
/-
  The writer beside boxes that are written; the walks of simple and of its closure.
-/
namespace Go.Proofs.YtnackmnoldkihaaGreatDoor
open Go.RowKit

/-- Boxes stay. -/
def Keeps (U U' : World) : Prop := ∀ g t cs, Blk U g t cs → t ≠ 5 → t ≠ 31 → t ≠ 84 → Blk U' g t cs
theorem Keeps.trans {U U' U'' : World} (h : Keeps U U') (h' : Keeps U' U'') : Keeps U U'' := fun g t cs hk h1 h2 h3 => h' g t cs (h g t cs hk h1 h2 h3) h1 h2 h3
theorem Keeps.of_below {U U' : World} (h : Below U.heap.size U U') : Keeps U U' := fun _ _ _ hk _ _ _ => hk.below h hk.lt
section
variable {V W X U U' W' : World} {B b : Nat} {dv : Value} {s : St}
theorem blk_ne {g : Nat} {t : TypeId} {cs : Array Value} {out : List UInt8} {ds : List DocV} (h : Wr U B b dv out ds) (hk : Blk U g t cs) (ht : t ≠ 84) : g ≠ b := fun e => by
 obtain ⟨v, p, h1⟩ := h.block
 subst e
 rw [show U.heap[g]? = some (.cells cs t (0, 0)) from hk] at h1
 injection h1 with h1
 injection h1 with _ h2 _
 exact ht h2
theorem Shown.keeps {out : List UInt8} {ds : List DocV} (hw : Wr U B b dv out ds) (h : Shown U B b dv s U') : Keeps U U' := fun g t cs hk h1 h2 h3 => by
 refine h.blk hk ?_ (row_ne hw.2.2.1 hk h2) h1
 exact blk_ne hw hk h3
theorem Shown.str2 (h : Shown V B b dv s W) (hb : Below W.heap.size W X) (t : ByteArray) (hlen : s.1.length + t.size ≤ lim) :
 Calls Tryz.prog 78 #[.pointer (some ⟨b, 0, none⟩), .string t] X fun e w' => e = .returned (.tuple #[.int .i64 t.size, .nilIface]) ∧ Shown V B b dv (putS s (L t)) w' ∧ Keeps X w' := by
 obtain ⟨dv1, ds1, h1, h2, h3⟩ := shown_st (h.later hb)
 have hst := Shown.start h1
 rw [h2] at hst
 exact (hst.str (Below.refl _ _) t hlen).mono fun e w' ⟨g1, g2⟩ => ⟨g1, g2.after h3, g2.keeps h1⟩
theorem Shown.byte2 (h : Shown V B b dv s W) (hb : Below W.heap.size W X) (c : UInt8) (hlen : s.1.length + 1 ≤ lim) :
 Calls Tryz.prog 81 #[.pointer (some ⟨b, 0, none⟩), .int .u8 ((c.toNat : Nat) : Int)] X fun e w' => e = .returned .nilIface ∧ Shown V B b dv (putS s [c]) w' ∧ Keeps X w' := by
 obtain ⟨dv1, ds1, h1, h2, h3⟩ := shown_st (h.later hb)
 have hst := Shown.start h1
 rw [h2] at hst
 exact (hst.byte (Below.refl _ _) c hlen).mono fun e w' ⟨g1, g2⟩ => ⟨g1, g2.after h3, g2.keeps h1⟩
theorem Shown.word2 {d : Nat} {ww : St → List Pt → St} {fw : List Pt → Bool} (hw : WordW d ww fw) (h : Shown V B b dv s W) (hb : Below W.heap.size W X) (hH : Hd V B) {l : List Pt} {v : Value} (hl : PtsIn V B d l v) (hf : fw l = true) (hlen : (ww s l).1.length ≤ lim) :
 Calls Tryz.prog 101 #[.pointer (some ⟨b, 0, none⟩), v] X fun e w' => e = .returned (.tuple #[]) ∧ Shown V B b dv (ww s l) w' ∧ Keeps X w' := by
 have hx := h.later hb
 obtain ⟨dv1, ds1, h1, h2, h3⟩ := shown_st hx
 rw [← h2] at hlen ⊢
 exact (hw X B b dv1 _ ds1 l v (hH.below hx.low) h1 (hl.below hx.low) hf hlen).mono fun e w' ⟨g1, g2⟩ => ⟨g1, g2.after h3, g2.keeps h1⟩
/-- A store into a box of the call's own. -/
theorem Shown.poke {g i : Nat} {t : TypeId} {cs : Array Value} (h : Shown V B b dv s W) (hk : Blk W g t cs) (hg : V.heap.size ≤ g) (hB : B ≤ V.heap.size) (h1 : t ≠ 5) (h2 : t ≠ 31) (h3 : t ≠ 84) (u : Value) : Shown V B b dv s (W.setCell ⟨g, i, none⟩ u) := by
 obtain ⟨dv1, ds1, e1, hw, hf⟩ := h
 have hgb : g ≠ b := blk_ne hw hk h3
 have hlow := (Below.refl B W).setCell (p := ⟨g, i, none⟩) (show B ≤ g by omega) u
 obtain ⟨hBb, ⟨v, p, k1, k2, k3⟩, k4, k5, k6⟩ := hw
 refine ⟨dv1, ds1, e1, ⟨hBb, ⟨v, p, (Below.heap_setCell W _ u b (Ne.symm hgb)).trans k1, k2, row_set k3 (row_ne k3 hk h1) i u⟩, row_set k4 (row_ne k4 hk h2) i u, fun r hr => ?_, k6⟩, ⟨hf.low.trans hlow, fun k o ho hb hd hu => ?_, hf.own⟩⟩
 · obtain ⟨d, hd⟩ := k5 r hr
   exact ⟨d, hd.keep fun _ _ _ _ hs => hs.below hlow⟩
 · rw [Below.heap_setCell W ⟨g, i, none⟩ u k (by have := (Array.getElem?_eq_some_iff.1 ho).1; simp; omega)]
   exact hf.kept k o ho hb hd hu
end

theorem enters_next (args : Array Value) (W : World) : (callFunc 100 args).run Tryz.prog W = .ok (Next.enter 100 args) W := by kernel_rfl

/-- The blank ahead, and its mark. -/
theorem next_any {V W X : World} {B b g0 g1 : Nat} {dv : Value} {s : St} {q : Bool} (h : Shown V B b dv s W) (hb : Below W.heap.size W X) (hk0 : Blk X g0 79 #[.pointer (some ⟨b, 0, none⟩)]) (hk1 : Blk X g1 4 #[.bool q]) (hg1 : V.heap.size ≤ g1) (hB : B ≤ V.heap.size) (hlen : (nextS s q).1.length ≤ lim) :
 Calls Tryz.prog 100 #[.pointer (some ⟨g1, 0, none⟩), .pointer (some ⟨g0, 0, none⟩)] X fun e w' => e = .returned (.tuple #[]) ∧ Shown V B b dv (nextS s q) w' ∧ Blk w' g1 4 #[.bool true] ∧ ∀ g t cs, g ≠ g1 → Blk X g t cs → t ≠ 5 → t ≠ 31 → t ≠ 84 → Blk w' g t cs := by
 have c0 := hk0.cell 0
 have c1 := hk1.cell 0
 have f1 := hk1.free 0
 simp at c0 c1
 have HS := Lib.hid (h.later hb)
 have HK0 := Lib.hid hk0
 have HK1 := Lib.hid hk1
 have HLEN := Lib.hid hlen
 clear h hb hk0 hk1 hlen
 cases q with
 | false =>
   go_enter Tryz.func100, Tryz.ntmps100
   go_wp2_with fail
   go_end0
   exact ⟨rfl, HS.out.poke HK1.out hg1 hB (by decide) (by decide) (by decide) _, HK1.out.put 0 _, fun g t cs hne hk _ _ _ => hk.far hne _⟩
 | true =>
   have CB := Lib.hid (HS.out.byte2 (Below.refl _ _) 32 (by have := HLEN.out; simpa [nextS, putS] using this))
   go_enter Tryz.func100, Tryz.ntmps100
   go_wp2_with fail
   refine CB.out.mono ?_
   rintro e w2 ⟨rfl, hs2, hkp⟩
   have HK2 := Lib.hid (hkp g1 _ _ HK1.out (by decide) (by decide) (by decide))
   have HS2 := Lib.hid hs2
   have HKP := Lib.hid hkp
   have c1' := HK2.out.cell 0
   have f1' := HK2.out.free 0
   simp at c1'
   clear hs2 hkp c0 c1 f1
   go_wp2_with fail
   go_end0
   exact ⟨rfl, HS2.out.poke HK2.out hg1 hB (by decide) (by decide) (by decide) _, HK2.out.put 0 _, fun g t cs hne hk h1 h2 h3 => (HKP.out g t cs hk h1 h2 h3).far hne _⟩

/-- The three boxes of simple. -/
def B3 (W U : World) (b : Nat) (cs : Array Value) (q : Bool) : Prop := Blk U W.heap.size 79 #[.pointer (some ⟨b, 0, none⟩)] ∧ Blk U (W.heap.size + 1) 38 cs ∧ Blk U (W.heap.size + 1 + 1) 4 #[.bool q]
theorem B3.keeps {W U U' : World} {b : Nat} {cs : Array Value} {q : Bool} (h : B3 W U b cs q) (hk : Keeps U U') : B3 W U' b cs q :=
 ⟨hk _ _ _ h.1 (by decide) (by decide) (by decide), hk _ _ _ h.2.1 (by decide) (by decide) (by decide), hk _ _ _ h.2.2 (by decide) (by decide) (by decide)⟩
theorem B3.next {W U U' : World} {b : Nat} {cs : Array Value} {q : Bool} (h : B3 W U b cs q) (h1 : Blk U' (W.heap.size + 1 + 1) 4 #[.bool true]) (hk : ∀ g t cs, g ≠ W.heap.size + 1 + 1 → Blk U g t cs → t ≠ 5 → t ≠ 31 → t ≠ 84 → Blk U' g t cs) : B3 W U' b cs true :=
 ⟨hk _ _ _ (by omega) h.1 (by decide) (by decide) (by decide), hk _ _ _ (by omega) h.2.1 (by decide) (by decide) (by decide), h1⟩

set_option maxHeartbeats 4000000 in
set_option maxRecDepth 100000 in
theorem wsimple_any {d : Nat} {wd : St → List Pt → St} {fw : List Pt → Bool} (hwd : WordW d wd fw) (hg : Grow2 wd) {W : World} {B b : Nat} {dv : Value} {out : List UInt8} {ds : List DocV} (x : Nd) (c : List Value) (h : Wr W B b dv out ds) (hH : Hd W B) (hc : NdC W B d x c) (hfa : x.assigns.all (fun a => fw a.word) = true) (hfw : x.words.all fw = true) (hfr : x.redirs.all (redirF fw) = true) (hlen : (simpleS wd (stOf out ds) x).1.length ≤ lim) :
 Calls Tryz.prog 76 #[.pointer (some ⟨b, 0, none⟩), .agg c.toArray] W fun e w' => e = .returned (.tuple #[]) ∧ Shown W B b dv (simpleS wd (stOf out ds) x) w' := by
 obtain ⟨a1, c1, a2, c2, a3, c3, a4, c4, a5, c5, rfl, hxz, ⟨hn1, hn2, hn3, hn4, hn5⟩, hA, hWd, hRd, _⟩ := hc.open
 obtain ⟨n1, hl1⟩ : ∃ n, x.assigns.length = n := ⟨_, rfl⟩
 obtain ⟨n2, hl2⟩ : ∃ n, x.words.length = n := ⟨_, rfl⟩
 obtain ⟨n3, hl3⟩ : ∃ n, x.redirs.length = n := ⟨_, rfl⟩
 obtain ⟨n4, hl4⟩ : ∃ n, x.lists.length = n := ⟨_, rfl⟩
 obtain ⟨n5, hl5⟩ : ∃ n, x.arms.length = n := ⟨_, rfl⟩
 rw [hl1] at hn1 hA
 rw [hl2] at hn2 hWd
 rw [hl3] at hn3 hRd
 rw [hl1, hl2, hl3, hl4, hl5]
 have HA := Lib.hid hA
 have HWS := Lib.hid hWd
 have HRS := Lib.hid hRd
 have HH := Lib.hid hH
 have HWD := Lib.hid hwd
 have HG := Lib.hid hg
 have HW := Lib.hid h
 have HFA := Lib.hid (List.all_eq_true.1 hfa)
 have HFW := Lib.hid (List.all_eq_true.1 hfw)
 have HFR := Lib.hid hfr
 have N1 := Lib.hid hl1
 have N2 := Lib.hid hl2
 have N3 := Lib.hid hl3
 obtain ⟨s0, hs0⟩ : ∃ s, stOf out ds = s := ⟨_, rfl⟩
 rw [hs0] at hlen ⊢
 have HS0 := Lib.hid hs0
 obtain ⟨sa, hsa⟩ : ∃ s, assignsS wd s0 x.assigns false = s := ⟨_, rfl⟩
 obtain ⟨sw, hsw⟩ : ∃ s, wordsS wd sa x.words (!x.assigns.isEmpty) = s := ⟨_, rfl⟩
 have hr : simpleS wd s0 x = redirsS wd sw x.redirs (!(x.assigns.isEmpty && x.words.isEmpty)) := by rw [simpleS, hsa, hsw]
 obtain ⟨r, hr0⟩ : ∃ r, simpleS wd s0 x = r := ⟨_, rfl⟩
 rw [hr0] at hlen hr ⊢
 have HR := Lib.hid hr
 have HLEN := Lib.hid hlen
 have HLW : Hid (sw.1.length ≤ lim) := Lib.hid (Nat.le_trans (by rw [hr]; exact redirsS_grow hg _ _ _) hlen)
 have HLA : Hid (sa.1.length ≤ lim) := Lib.hid (Nat.le_trans (by rw [← hsw]; exact wordsS_grow hg _ _ _) HLW.out)
 have HLAT : Hid (∀ k, (assignsS wd s0 (x.assigns.take k) false).1.length ≤ lim) := Lib.hid fun k => Nat.le_trans (assigns_take_le hg _ _ _ k) (by rw [hsa]; exact HLA.out)
 have HLWT : Hid (∀ k, (wordsS wd sa (x.words.take k) (!x.assigns.isEmpty)).1.length ≤ lim) := Lib.hid fun k => Nat.le_trans (words_take_le hg _ _ _ k) (by rw [hsw]; exact HLW.out)
 have HSA := Lib.hid hsa
 have HSW := Lib.hid hsw
 have hle := h.le
 clear hl1 hl2 hl3 hl4 hl5 hA hWd hRd hH hwd hg h hfa hfw hfr hlen hc hs0 hsa hsw hr hr0
 obtain ⟨nc, hnc⟩ : ∃ cs : Array Value, cs = #[.int .i64 x.kind, .string x.name, .slice a1 n1 c1, .slice a2 n2 c2, .slice a3 n3 c3, .slice a4 n4 c4, .slice a5 n5 c5] := ⟨_, rfl⟩
 have HNC := Lib.hid hnc
 have HB3 : Hid (B3 W (((W.alloc (.cells #[.pointer (some ⟨b, 0, none⟩)] 79)).alloc (.cells nc 38)).alloc (.cells #[.bool false] 4)) b nc false) := Lib.hid ⟨((Blk.at rfl).alloc _).alloc _, (Blk.at (by simp)).alloc _, Blk.at (by simp)⟩
 have HBL : Hid (Below W.heap.size W (((W.alloc (.cells #[.pointer (some ⟨b, 0, none⟩)] 79)).alloc (.cells nc 38)).alloc (.cells #[.bool false] 4))) := Lib.hid bg
 obtain ⟨U, hU⟩ : ∃ U, U = (((W.alloc (.cells #[.pointer (some ⟨b, 0, none⟩)] 79)).alloc (.cells nc 38)).alloc (.cells #[.bool false] 4)) := ⟨_, rfl⟩
 rw [← hU] at HB3 HBL
 rw [hnc] at hU
 have HUE := Lib.hid hU
 clear hU hnc
 have HSU : Hid (Shown W B b dv s0 U) := Lib.hid (by have := (Shown.start HW.out).later HBL.out; rwa [HS0.out] at this)
 go_enter Tryz.func76, Tryz.ntmps76
 go_upto_region 3 with fail
 rw [← HUE.out]
 have HB := HB3
 have HK0 := Lib.hid (HB.out.1)
 have HK1 := Lib.hid (HB.out.2.1)
 rw [HNC.out] at HK1
 have HK2 := Lib.hid (HB.out.2.2)
 have b0 := HK0.out.cell 0
 have m0 := HK2.out.cell 0
 have m1 := HK2.out.lt
 simp at b0 m0
 obtain ⟨y0, y1, y2, y3, y4, y5, y6, yl⟩ := HK1.out.box7
 go_wp2_with fail
 clear b0 m0 m1 y0 y1 y2 y3 y4 y5 y6 yl HK0 HK1 HK2 HB
 go_loopw [14] (fun i U => ∃ (k : Nat) (q : Bool), k ≤ n1 ∧ i = .int .i64 k ∧ q = decide (0 < k) ∧ Shown W B b dv (assignsS wd s0 (x.assigns.take k) false) U ∧ B3 W U b nc q) (fun i _ => n1 - (intOf i).toNat)
 case atStart => exact ⟨0, false, Nat.zero_le _, rfl, rfl, HSU.out, HB3.out⟩
 case round =>
  obtain ⟨k, q, hk, rfl, hq, hsh, hb3⟩ := hrel
  have HQ := Lib.hid hq
  have HB := Lib.hid hb3
  obtain ⟨s, hs⟩ : ∃ s, assignsS wd s0 (x.assigns.take k) false = s := ⟨_, rfl⟩
  rw [hs] at hsh
  have HS := Lib.hid hs
  have HSH := Lib.hid hsh
  have hlow := hsh.low
  have hleW := hsh.le
  clear hsh hb3 hq hs
  have HK0 := Lib.hid (HB.out.1)
  have HK1 := Lib.hid (HB.out.2.1)
  rw [HNC.out] at HK1
  have HK2 := Lib.hid (HB.out.2.2)
  have b0 := HK0.out.cell 0
  have m0 := HK2.out.cell 0
  have m1 := HK2.out.lt
  simp at b0 m0
  obtain ⟨y0, y1, y2, y3, y4, y5, y6, yl⟩ := HK1.out.box7
  by_cases hlt : k < n1
  · obtain ⟨y, hy⟩ : ∃ y, x.assigns[k]? = .some y := ⟨_, List.getElem?_eq_getElem (by rw [N1.out]; exact hlt)⟩
    obtain ⟨b1, o, c, hi, hbB, hce, hC, _⟩ := HA.out.at 33 94 Tryz.underlying33 (by kernel_rfl) hy
    have HSX : Hid (assignsS wd s0 (x.assigns.take (k + 1)) false = wd (putS (nextS s q) (L y.name ++ [61])) y.word) := Lib.hid (by
     rw [take_snoc' hy, assigns_snoc, HS.out, HQ.out, take_empty (by rw [N1.out]; exact hlt), Bool.false_or])
    have HLX := Lib.hid (HLAT.out (k + 1))
    rw [HSX.out] at HLX
    have HZ2 : Hid ((putS (nextS s q) (L y.name ++ [61])).1.length ≤ lim) := Lib.hid (Nat.le_trans (HG.out _ _) HLX.out)
    have HZ1 : Hid ((nextS s q).1.length ≤ lim) := Lib.hid (Nat.le_trans (putS_grow _ _) HZ2.out)
    have HFY : Hid (fw y.word = true) := Lib.hid (HFA.out y (List.mem_of_getElem? hy))
    obtain ⟨a6, c6, rfl, hyz, hyl, hyp⟩ := hC.open
    have HYP := Lib.hid hyp
    have e0 := (hlow.cell hbB).trans (hce 0 _ rfl)
    have e1 := (hlow.cell hbB).trans (hce 1 _ rfl)
    have hbB' := Nat.lt_of_lt_of_le hbB hleW
    rw [Nat.add_zero] at e0
    obtain ⟨X, hX⟩ : ∃ X, X = wr.alloc (.cells #[.string y.name, .slice a6 y.word.length c6] 94) := ⟨_, rfl⟩
    have HBX : Hid (Below wr.heap.size wr X) := Lib.hid (by rw [hX]; exact (Below.refl _ _).alloc (Nat.le_refl _) _)
    have HKX : Hid (Blk X wr.heap.size 94 #[.string y.name, .slice a6 y.word.length c6]) := Lib.hid (by rw [hX]; exact Blk.new _ _ _)
    have HXE := Lib.hid hX
    have HB3X := Lib.hid (HB.out.keeps (Keeps.of_below HBX.out))
    have hgne : wr.heap.size ≠ W.heap.size + 1 + 1 := by omega
    have CN := Lib.hid (next_any HSH.out HBX.out HB3X.out.1 HB3X.out.2.2 (by omega) hle HZ1.out)
    clear hy hce hC hX hyp
    go_wp2_with fail
    rw [← HXE.out]
    refine CN.out.mono ?_
    rintro e w2 ⟨rfl, hs2, hm2, hk2⟩
    have HB2 := Lib.hid (HB3X.out.next hm2 hk2)
    have HY2 := Lib.hid (hk2 _ _ _ hgne HKX.out (by decide) (by decide) (by decide))
    have C2 : Hid (∀ X2, Below w2.heap.size w2 X2 → Calls Tryz.prog 78 #[.pointer (some ⟨b, 0, none⟩), .string (y.name ++ ⟨#[61]⟩)] X2 fun e w' => e = .returned (.tuple #[.int .i64 (y.name.size + 1 : Nat), .nilIface]) ∧ Shown W B b dv (putS (nextS s q) (L y.name ++ [61])) w' ∧ Keeps X2 w') := Lib.hid fun X2 hX2 => by
     have h1 := hs2.str2 hX2 (y.name ++ ⟨#[61]⟩) (by have := HZ2.out; simp [putS, L_size] at this ⊢; omega)
     have e : L (y.name ++ ⟨#[61]⟩) = L y.name ++ [61] := by simp [L_append]
     have e2 : (y.name ++ (⟨#[61]⟩ : ByteArray)).size = y.name.size + 1 := by simp
     rw [e, e2] at h1
     exact h1
    clear hs2 hm2 hk2 b0 m0 m1 y0 y1 y2 y3 y4 y5 y6 yl HK0 HK1 HK2 CN
    have HB := HB2
    have HK0 := Lib.hid (HB.out.1)
    have HK1 := Lib.hid (HB.out.2.1)
    rw [HNC.out] at HK1
    have HK2 := Lib.hid (HB.out.2.2)
    have b0 := HK0.out.cell 0
    have m0 := HK2.out.cell 0
    have m1 := HK2.out.lt
    simp at b0 m0
    obtain ⟨y0, y1, y2, y3, y4, y5, y6, yl⟩ := HK1.out.box7
    have z0 := HY2.out.cell 0
    have z1 := HY2.out.cell 1
    have zl := HY2.out.lt
    simp at z0 z1
    have k1 : ∀ V : World, (Op.stringOp .add y.name (⟨#[61]⟩ : ByteArray)).run Tryz.prog V = .ok (.string (y.name ++ (⟨#[61]⟩ : ByteArray))) V := fun V => run_string_add_sum V _ _ (by simp; omega)
    go_wp2_with fail
    go_still_tail 6, (by kernel_rfl)
    go_wp2_with fail
    refine (C2.out _ bg).mono ?_
    rintro e w3 ⟨rfl, hs3, hk3⟩
    have HB3' := Lib.hid (HB2.out.keeps (Keeps.trans (Keeps.of_below bg) hk3))
    have HY3 := Lib.hid ((Keeps.trans (Keeps.of_below bg) hk3) _ _ _ HY2.out (by decide) (by decide) (by decide))
    have C3 := Lib.hid (hs3.word2 HWD.out (Below.refl _ _) HH.out HYP.out HFY.out HLX.out)
    clear hs3 hk3 b0 m0 m1 y0 y1 y2 y3 y4 y5 y6 yl z0 z1 zl HK0 HK1 HK2 HB C2
    have HB := HB3'
    have HK0 := Lib.hid (HB.out.1)
    have HK1 := Lib.hid (HB.out.2.1)
    rw [HNC.out] at HK1
    have HK2 := Lib.hid (HB.out.2.2)
    have b0 := HK0.out.cell 0
    have m0 := HK2.out.cell 0
    have m1 := HK2.out.lt
    simp at b0 m0
    obtain ⟨y0, y1, y2, y3, y4, y5, y6, yl⟩ := HK1.out.box7
    have z1 := HY3.out.cell 1
    have zl := HY3.out.lt
    simp at z1
    go_wp2_with fail
    refine C3.out.mono ?_
    rintro e w4 ⟨rfl, hs4, hk4⟩
    have HB4 := Lib.hid (HB3'.out.keeps hk4)
    have HS4 := Lib.hid hs4
    clear hs4 hk4
    go_wp2_with fail
    go_roundw
    case rel => exact ⟨k + 1, true, by omega, by go_num, by simp, by rw [HSX.out]; exact HS4.out, HB4.out⟩
    case measure => simp [intOf]; omega
  · have HTK : Hid (x.assigns.take k = x.assigns) := Lib.hid (List.take_of_length_le (by rw [N1.out]; omega))
    have HSE : Hid (s = sa) := Lib.hid (by rw [← HS.out, HTK.out]; exact HSA.out)
    have HQ1 : Hid (q = !x.assigns.isEmpty) := Lib.hid (by rw [HQ.out, nil_of N1.out]; by_cases h0 : n1 = 0 <;> simp [h0] <;> omega)
    rw [HSE.out] at HSH
    go_wp2_with fail
    clear b0 m0 m1 y0 y1 y2 y3 y4 y5 y6 yl HK0 HK1 HK2 hlow hleW
    go_loopw [35] (fun i U => ∃ (j : Nat) (q : Bool), j ≤ n2 ∧ i = .int .i64 j ∧ q = (!x.assigns.isEmpty || decide (0 < j)) ∧ Shown W B b dv (wordsS wd sa (x.words.take j) (!x.assigns.isEmpty)) U ∧ B3 W U b nc q) (fun i _ => n2 - (intOf i).toNat)
    case atStart => exact ⟨0, q, Nat.zero_le _, rfl, by rw [HQ1.out]; simp, HSH.out, HB.out⟩
    case round =>
     clear HB HSH HQ HQ1 HS HSE HTK
     obtain ⟨j, q2, hj, rfl, hq, hsh, hb3⟩ := hrel
     have HQ := Lib.hid hq
     have HB := Lib.hid hb3
     obtain ⟨s2, hs⟩ : ∃ s, wordsS wd sa (x.words.take j) (!x.assigns.isEmpty) = s := ⟨_, rfl⟩
     rw [hs] at hsh
     have HS := Lib.hid hs
     have HSH := Lib.hid hsh
     have hlow := hsh.low
     have hleW := hsh.le
     clear hsh hb3 hq hs
     have HK0 := Lib.hid (HB.out.1)
     have HK1 := Lib.hid (HB.out.2.1)
     rw [HNC.out] at HK1
     have HK2 := Lib.hid (HB.out.2.2)
     have b0 := HK0.out.cell 0
     have m0 := HK2.out.cell 0
     have m1 := HK2.out.lt
     simp at b0 m0
     obtain ⟨y0, y1, y2, y3, y4, y5, y6, yl⟩ := HK1.out.box7
     by_cases hlt2 : j < n2
     · obtain ⟨y, hy⟩ : ∃ y, x.words[j]? = .some y := ⟨_, List.getElem?_eq_getElem (by rw [N2.out]; exact hlt2)⟩
       obtain ⟨b1, o, c, hi, hbB, hce, ⟨yv, rfl, hyp⟩, _⟩ := HWS.out.at 34 29 Tryz.underlying34 (by kernel_rfl) hy
       obtain ⟨a6, c6, rfl, _⟩ := hyp.shape
       have HSX : Hid (wordsS wd sa (x.words.take (j + 1)) (!x.assigns.isEmpty) = wd (nextS s2 q2) y) := Lib.hid (by
        rw [take_snoc' hy, words_snoc, HS.out, HQ.out, take_empty (by rw [N2.out]; exact hlt2)])
       have HLX := Lib.hid (HLWT.out (j + 1))
       rw [HSX.out] at HLX
       have HZ1 : Hid ((nextS s2 q2).1.length ≤ lim) := Lib.hid (Nat.le_trans (HG.out _ _) HLX.out)
       have HFY : Hid (fw y = true) := Lib.hid (HFW.out y (List.mem_of_getElem? hy))
       have HYP := Lib.hid hyp
       have e0 := (hlow.cell hbB).trans (hce 0 _ rfl)
       have hbB' := Nat.lt_of_lt_of_le hbB hleW
       rw [Nat.add_zero] at e0
       have CN := Lib.hid (next_any HSH.out (Below.refl _ _) HB.out.1 HB.out.2.2 (by omega) hle HZ1.out)
       clear hy hce hyp
       go_wp2_with fail
       refine CN.out.mono ?_
       rintro e w2 ⟨rfl, hs2, hm2, hk2⟩
       have HB2 := Lib.hid (HB.out.next hm2 hk2)
       have C3 := Lib.hid (hs2.word2 HWD.out (Below.refl _ _) HH.out HYP.out HFY.out HLX.out)
       clear hs2 hm2 hk2 b0 m0 m1 y0 y1 y2 y3 y4 y5 y6 yl HK0 HK1 HK2 CN HB
       have HB := HB2
       have HK0 := Lib.hid (HB.out.1)
       have HK1 := Lib.hid (HB.out.2.1)
       rw [HNC.out] at HK1
       have HK2 := Lib.hid (HB.out.2.2)
       have b0 := HK0.out.cell 0
       have m0 := HK2.out.cell 0
       have m1 := HK2.out.lt
       simp at b0 m0
       obtain ⟨y0, y1, y2, y3, y4, y5, y6, yl⟩ := HK1.out.box7
       go_wp2_with fail
       refine C3.out.mono ?_
       rintro e w4 ⟨rfl, hs4, hk4⟩
       have HB4 := Lib.hid (HB2.out.keeps hk4)
       have HS4 := Lib.hid hs4
       clear hs4 hk4
       go_wp2_with fail
       go_roundw
       case rel => exact ⟨j + 1, true, by omega, by go_num, by simp, by rw [HSX.out]; exact HS4.out, HB4.out⟩
       case measure => simp [intOf]; omega
     · have HTK : Hid (x.words.take j = x.words) := Lib.hid (List.take_of_length_le (by rw [N2.out]; omega))
       have HSE : Hid (s2 = sw) := Lib.hid (by rw [← HS.out, HTK.out]; exact HSW.out)
       have HQ1 : Hid (q2 = !(x.assigns.isEmpty && x.words.isEmpty)) := Lib.hid (by
        rw [HQ.out, nil_of N2.out]
        cases x.assigns.isEmpty
        · rfl
        · by_cases h0 : n2 = 0 <;> simp [h0] <;> omega)
       rw [HSE.out] at HSH
       have CR : Hid (Calls Tryz.prog 80 #[.pointer (some ⟨b, 0, none⟩), .slice a3 n3 c3, .bool q2] wr fun e w' => e = .returned (.tuple #[]) ∧ Shown W B b dv r w') := Lib.hid (by
        obtain ⟨dv1, ds1, h1, h2, h3⟩ := shown_st HSH.out
        have hlow1 := HSH.out.low
        have h4 := wredirs_any HWD.out HG.out h1 (HH.out.below hlow1) (HRS.out.imp (fun xs hs => hs.below hlow1) fun _ _ _ h => h.keep fun _ _ _ _ hs => hs.below hlow1) HFR.out q2 (by rw [h2, HQ1.out, ← HR.out]; exact HLEN.out)
        rw [h2, HQ1.out, ← HR.out] at h4
        rw [HQ1.out]
        exact h4.mono fun e w' ⟨g1, g2⟩ => ⟨g1, g2.after h3⟩)
       go_wp2_with fail
       refine CR.out.mono ?_
       rintro e w5 ⟨rfl, hs5⟩
       have HS5 := Lib.hid hs5
       clear hs5
       go_wp2_with fail
       go_end0
       exact ⟨rfl, HS5.out⟩
end Go.Proofs.YtnackmnoldkihaaGreatDoor
namespace Go.Proofs.YtnackmnoldkihaaGreatDoor
open Go.RowKit

/-- The first command of a list. -/
theorem NdsIn.head {w : World} {B d : Nat} {l : List Nd} {v : Value} (h : NdsIn w B d l v) (h0 : 0 < l.length) : ∃ x r d' b o c, l = x :: r ∧ d = d' + 1 ∧ (∀ w' : World, (Instr.indexAt 22 v (.int .i64 0)).run Tryz.prog w' = .ok (.pointer (some ⟨b, o, none⟩)) w') ∧ b < B ∧ CellsAt w b o c ∧ NdC w B d' x c := by
 cases d with
 | zero => rw [NdsIn] at h; obtain rfl := h.zero; simp at h0
 | succ d =>
   rw [NdsIn.succ] at h
   cases l with
   | nil => simp at h0
   | cons x r =>
     obtain ⟨b, o, c, hi, hb, hc, hC, _⟩ := h.at 22 38 Tryz.underlying22 (by kernel_rfl) (k := 0) (x := x) rfl
     exact ⟨x, r, d, b, o, c, rfl, rfl, fun w' => hi w', hb, hc, hC⟩

set_option maxHeartbeats 2000000 in
set_option maxRecDepth 100000 in
theorem wjoin_any {D : Nat} {wn : St → Nd → St} {fn : Nd → Bool} (hwn : ∀ d, D = d + 1 → NodeW d wn fn) (hg : Grow2 wn) {V W X : World} {B b : Nat} {dv : Value} {s0 : St} (h : Shown V B b dv s0 W) (hb : Below W.heap.size W X) (hH : Hd V B) (sign : ByteArray) (l : List (List Nd)) (v : Value) (hl : LssIn V B D l v) (hf : l.all (fun y => y.all fn) = true) (hf2 : l.all (fun y => !y.isEmpty) = true) (hlen : (joinS wn (L sign) s0 l false).1.length ≤ lim) :
 Calls Tryz.prog 77 #[.pointer (some ⟨b, 0, none⟩), .string sign, v] X fun e w' => e = .returned (.tuple #[]) ∧ Shown V B b dv (joinS wn (L sign) s0 l false) w' := by
 obtain ⟨a, cap, rfl, hz⟩ := hl.len
 obtain ⟨n, hn⟩ : ∃ n, l.length = n := ⟨_, rfl⟩
 rw [hn] at hl hz ⊢
 have HSX := Lib.hid (h.later hb)
 have HL := Lib.hid hl
 have HN := Lib.hid hn
 have HH := Lib.hid hH
 have HWN := Lib.hid hwn
 have HG := Lib.hid hg
 have HFA := Lib.hid (List.all_eq_true.1 hf)
 have HFB := Lib.hid (List.all_eq_true.1 hf2)
 have HLEN : Hid (∀ k, (joinS wn (L sign) s0 (l.take k) false).1.length ≤ lim) := Lib.hid fun k => Nat.le_trans (join_take_le hg (L sign) l _ false k) hlen
 clear hl hn hH hwn hg h hb hf hf2 hlen
 go_enter Tryz.func77, Tryz.ntmps77
 go_wp2_with fail
 go_loopw [10] (fun i U => ∃ k : Nat, k ≤ n ∧ i = .int .i64 k ∧ Shown V B b dv (joinS wn (L sign) s0 (l.take k) false) U) (fun i _ => n - (intOf i).toNat)
 case atStart => exact ⟨0, Nat.zero_le _, rfl, HSX.out⟩
 case round =>
  obtain ⟨k, hk, rfl, hsh⟩ := hrel
  obtain ⟨s, hs⟩ : ∃ s, joinS wn (L sign) s0 (l.take k) false = s := ⟨_, rfl⟩
  rw [hs] at hsh
  have HS := Lib.hid hs
  have HSH := Lib.hid hsh
  have hlow := hsh.low
  have hleW := hsh.le
  clear hsh hs
  by_cases hlt : k < n
  · obtain ⟨y, hy⟩ : ∃ y, l[k]? = .some y := ⟨_, List.getElem?_eq_getElem (by rw [HN.out]; exact hlt)⟩
    obtain ⟨b1, o, c, hi, hbB, hce, ⟨yv, rfl, hyp⟩, _⟩ := HL.out.at 35 22 Tryz.underlying35 (by kernel_rfl) hy
    have hm := List.mem_of_getElem? hy
    have hye := HFB.out y hm
    obtain ⟨x, r, d', b2, o2, c, hyx, hdd, hi2, hbB2, hce2, hC⟩ := hyp.head (by cases y with | nil => simp at hye | cons => simp)
    have HWN2 := Lib.hid (HWN.out d' hdd)
    obtain ⟨a6, c6, rfl, _⟩ := hyp.shape
    have HSX1 : Hid (joinS wn (L sign) s0 (l.take (k + 1)) false = wn (bif decide (0 < k) then putS s (L sign) else s) x) := Lib.hid (by
     rw [take_snoc' hy, join_snoc, HS.out, take_empty (by rw [HN.out]; exact hlt), Bool.false_or, hyx, oneS])
    have HLX := Lib.hid (HLEN.out (k + 1))
    rw [HSX1.out] at HLX
    have HFY : Hid (fn x = true) := Lib.hid (by
     have h1 := HFA.out y hm
     rw [hyx] at h1
     exact List.all_eq_true.1 h1 x (by simp))
    have HC := Lib.hid hC
    obtain ⟨a1, c1, a2, c2, a3, c3, a4, c4, a5, c5, rfl, _⟩ := hC.open
    have e0 := (hlow.cell hbB).trans (hce 0 _ rfl)
    have f0 := (hlow.cell hbB2).trans (hce2 0 _ rfl)
    have f1 := (hlow.cell hbB2).trans (hce2 1 _ rfl)
    have f2 := (hlow.cell hbB2).trans (hce2 2 _ rfl)
    have f3 := (hlow.cell hbB2).trans (hce2 3 _ rfl)
    have f4 := (hlow.cell hbB2).trans (hce2 4 _ rfl)
    have f5 := (hlow.cell hbB2).trans (hce2 5 _ rfl)
    have f6 := (hlow.cell hbB2).trans (hce2 6 _ rfl)
    rw [Nat.add_zero] at e0 f0
    obtain ⟨ny, hny⟩ : ∃ n, y.length = n := ⟨_, rfl⟩
    rw [hny] at e0 hi2
    have HCE : Hid (∀ U, Below B V U → U.cell? ⟨b2, o2, none⟩ = some (.int .i64 x.kind) ∧ U.cell? ⟨b2, o2 + 1, none⟩ = some (.string x.name) ∧ U.cell? ⟨b2, o2 + 2, none⟩ = some (.slice a1 x.assigns.length c1) ∧ U.cell? ⟨b2, o2 + 3, none⟩ = some (.slice a2 x.words.length c2) ∧ U.cell? ⟨b2, o2 + 4, none⟩ = some (.slice a3 x.redirs.length c3) ∧ U.cell? ⟨b2, o2 + 5, none⟩ = some (.slice a4 x.lists.length c4) ∧ U.cell? ⟨b2, o2 + 6, none⟩ = some (.slice a5 x.arms.length c5)) := Lib.hid fun U hU =>
     ⟨(hU.cell hbB2).trans (hce2 0 _ rfl), (hU.cell hbB2).trans (hce2 1 _ rfl), (hU.cell hbB2).trans (hce2 2 _ rfl), (hU.cell hbB2).trans (hce2 3 _ rfl), (hU.cell hbB2).trans (hce2 4 _ rfl), (hU.cell hbB2).trans (hce2 5 _ rfl), (hU.cell hbB2).trans (hce2 6 _ rfl)⟩
    clear hy hce hC hyp hce2 hyx hye hm hny hdd
    by_cases h0 : k = 0
    · subst h0
      have hi0 : ∀ w' : World, (Instr.indexAt 35 (.slice a n cap) (.int .i64 0)).run Tryz.prog w' = .ok (.pointer (some ⟨b1, o, none⟩)) w' := fun w' => hi w'
      have HLX2 := HLX
      have CN := Lib.hid (HSH.out.node HWN2.out (Below.refl _ _) HH.out HC.out HFY.out (by have := HLX2.out; simpa using this))
      go_wp2_with fail
      refine CN.out.mono ?_
      rintro e w2 ⟨rfl, hs2⟩
      have HS2 := Lib.hid hs2
      clear hs2
      go_wp2_with fail
      go_roundw
      case rel => exact ⟨0 + 1, by omega, by go_num, by rw [HSX1.out]; simpa using HS2.out⟩
      case measure => simp [intOf]; omega
    · have hk0 : decide ((0 : Int) < (k : Int)) = true := by simp; omega
      have hk1 : decide (0 < k) = true := by simp; omega
      rw [hk1] at HLX HSX1
      have CS := Lib.hid (HSH.out.str (Below.refl _ _) sign (by
       have h1 := Nat.le_trans (HG.out (putS s (L sign)) x) HLX.out
       simpa [putS, L_size] using h1))
      go_wp2_with fail
      refine CS.out.mono ?_
      rintro e w2 ⟨rfl, hs2⟩
      obtain ⟨g0, g1, g2, g3, g4, g5, g6⟩ := HCE.out w2 hs2.low
      have CN := Lib.hid (hs2.node HWN2.out (Below.refl _ _) HH.out HC.out HFY.out HLX.out)
      clear hs2
      go_wp2_with fail
      refine CN.out.mono ?_
      rintro e w3 ⟨rfl, hs3⟩
      have HS3 := Lib.hid hs3
      clear hs3
      go_wp2_with fail
      go_roundw
      case rel => exact ⟨k + 1, by omega, by go_num, by rw [HSX1.out]; exact HS3.out⟩
      case measure => simp [intOf]; omega
  · have HTK : Hid (l.take k = l) := Lib.hid (List.take_of_length_le (by rw [HN.out]; omega))
    go_wp2_with fail
    go_end0
    refine ⟨rfl, ?_⟩
    have h1 := HSH.out
    rwa [← HS.out, HTK.out] at h1
end Go.Proofs.YtnackmnoldkihaaGreatDoor
