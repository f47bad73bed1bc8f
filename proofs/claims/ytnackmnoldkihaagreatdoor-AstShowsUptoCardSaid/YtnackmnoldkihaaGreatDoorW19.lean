/-
  The walk of the writer's arms.
-/
import Derived.Test.YtnackmnoldkihaaGreatDoorW18
set_option linter.unusedVariables false
set_option linter.unusedSimpArgs false
namespace Go.Proofs.YtnackmnoldkihaaGreatDoor
open Go.RowKit

/-- A call that shows more leaves the boxes. -/
theorem Shown.twice {V W X : World} {B b : Nat} {dv : Value} {s s' : St} {f : FuncId} {args : Array Value} {v : Ending} (h : Shown V B b dv s W) (hb : Below W.heap.size W X) (hc : ∀ dv1, Shown X B b dv1 s X → Calls Tryz.prog f args X fun e w' => e = v ∧ Shown X B b dv1 s' w') :
 Calls Tryz.prog f args X fun e w' => e = v ∧ Shown V B b dv s' w' ∧ Keeps X w' := by
 obtain ⟨dv1, ds1, h1, h2, h3⟩ := shown_st (h.later hb)
 have hst := Shown.start h1
 rw [h2] at hst
 exact (hc dv1 hst).mono fun e w' ⟨g1, g2⟩ => ⟨g1, g2.after h3, g2.keeps h1⟩
theorem Shown.line2 {V W X : World} {B b : Nat} {dv : Value} {s : St} (h : Shown V B b dv s W) (hb : Below W.heap.size W X) (hlen : (lineS s).1.length ≤ lim) :
 Calls Tryz.prog 62 #[.pointer (some ⟨b, 0, none⟩)] X fun e w' => e = .returned (.tuple #[]) ∧ Shown V B b dv (lineS s) w' ∧ Keeps X w' :=
 h.twice hb fun _ h1 => h1.line (Below.refl _ _) hlen
theorem Shown.block2 {d : Nat} {wl : St → List Nd → St} {fl : List Nd → Bool} (hw : ListW d wl fl) (hg : Grow2 wl) {V W X : World} {B b : Nat} {dv : Value} {s : St} (h : Shown V B b dv s W) (hb : Below W.heap.size W X) (hH : Hd V B) (head : ByteArray) {l : List Nd} {v : Value} (hl : NdsIn V B d l v) (hf : fl l = true) (hlen : (blockS wl s (L head) l).1.length ≤ lim) :
 Calls Tryz.prog 103 #[.pointer (some ⟨b, 0, none⟩), .string head, v] X fun e w' => e = .returned (.tuple #[]) ∧ Shown V B b dv (blockS wl s (L head) l) w' ∧ Keeps X w' := by
 have hx := h.later hb
 exact h.twice hb fun _ h1 => wblock_any hw hg h1 (Below.refl _ _) (hH.below hx.low) head (hl.below hx.low) hf hlen
set_option maxHeartbeats 4000000 in
set_option maxRecDepth 100000 in
theorem warms_any {d : Nat} {wd : St → List Pt → St} {fw : List Pt → Bool} (hwd : WordW d wd fw) (hg : Grow2 wd) {wl : St → List Nd → St} {fl : List Nd → Bool} (hwl : ListW d wl fl) (hgl : Grow2 wl) {W : World} {B b : Nat} {dv : Value} {out : List UInt8} {ds : List DocV} (x : Nd) (c : List Value) (h : Wr W B b dv out ds) (hH : Hd W B) (hc : NdC W B d x c) (hw0 : 0 < x.words.length) (hfw : x.words.all fw = true) (hfa : x.arms.all (fun a => a.words.all fw && fl a.body) = true) (hlen : (caseS wd wl (stOf out ds) x).1.length ≤ lim) :
 Calls Tryz.prog 104 #[.pointer (some ⟨b, 0, none⟩), .agg c.toArray] W fun e w' => e = .returned (.tuple #[]) ∧ Shown W B b dv (caseS wd wl (stOf out ds) x) w' := by
 obtain ⟨a1, c1, a2, c2, a3, c3, a4, c4, a5, c5, rfl, hxz, ⟨hn1, hn2, hn3, hn4, hn5⟩, _, hWd, _, _, hAr⟩ := hc.open
 obtain ⟨y0w, bw, ow, aw, cw, ⟨ry, hyw⟩, hiw, hbw, hcw⟩ := hWd.first hw0
 obtain ⟨hcw0, hyp0⟩ := hcw
 obtain ⟨n1, hl1⟩ : ∃ n, x.assigns.length = n := ⟨_, rfl⟩
 obtain ⟨n2, hl2⟩ : ∃ n, x.words.length = n := ⟨_, rfl⟩
 obtain ⟨n3, hl3⟩ : ∃ n, x.redirs.length = n := ⟨_, rfl⟩
 obtain ⟨n4, hl4⟩ : ∃ n, x.lists.length = n := ⟨_, rfl⟩
 obtain ⟨n5, hl5⟩ : ∃ n, x.arms.length = n := ⟨_, rfl⟩
 rw [hl2] at hn2 hw0 hiw
 rw [hl5] at hn5 hAr
 rw [hl1, hl2, hl3, hl4, hl5]
 have HA := Lib.hid hAr
 have HYP0 := Lib.hid hyp0
 have HH := Lib.hid hH
 have HWD := Lib.hid hwd
 have HWL := Lib.hid hwl
 have HG := Lib.hid hg
 have HGL := Lib.hid hgl
 have HW := Lib.hid h
 have HFY0 : Hid (fw y0w = true) := Lib.hid (List.all_eq_true.1 hfw y0w (by rw [hyw]; simp))
 have HFA := Lib.hid (List.all_eq_true.1 hfa)
 have HN := Lib.hid hl5
 obtain ⟨s0, hs0⟩ : ∃ s, stOf out ds = s := ⟨_, rfl⟩
 rw [hs0] at hlen ⊢
 have HS0 := Lib.hid hs0
 have HGA : Hid (Grow2 (armS wd wl)) := Lib.hid (armS_grow hg hgl)
 obtain ⟨s1, hs1⟩ : ∃ s, lineS (putS (wd (putS s0 [99, 97, 115, 101, 32]) y0w) [32, 105, 110]) = s := ⟨_, rfl⟩
 have hfst : firstW x = y0w := by rw [firstW, hyw]
 have HR : Hid (caseS wd wl s0 x = putS (x.arms.foldl (armS wd wl) s1) [101, 115, 97, 99]) := Lib.hid (by rw [caseS, hfst, hs1])
 rw [HR.out] at hlen ⊢
 have HLEN := Lib.hid hlen
 have HLA : Hid (∀ k, ((x.arms.take k).foldl (armS wd wl) s1).1.length ≤ lim) := Lib.hid fun k => Nat.le_trans (fold_take_le HGA.out _ _ k) (Nat.le_trans (putS_grow _ _) hlen)
 have HL1 : Hid (s1.1.length ≤ lim) := Lib.hid (HLA.out 0)
 have HL2 : Hid ((putS (wd (putS s0 [99, 97, 115, 101, 32]) y0w) [32, 105, 110]).1.length ≤ lim) := Lib.hid (Nat.le_trans (by rw [← hs1]; exact lineS_grow _) HL1.out)
 have HL3 : Hid ((wd (putS s0 [99, 97, 115, 101, 32]) y0w).1.length ≤ lim) := Lib.hid (Nat.le_trans (putS_grow _ _) HL2.out)
 have HL4 : Hid ((putS s0 [99, 97, 115, 101, 32]).1.length ≤ lim) := Lib.hid (Nat.le_trans (hg _ _) HL3.out)
 have HS1 := Lib.hid hs1
 have hle := h.le
 clear hl1 hl2 hl3 hl4 hl5 hWd hAr hH hwd hwl hg hgl h hfa hfw hlen hc hs0 hs1 hyp0 hfst hyw
 obtain ⟨nc, hnc⟩ : ∃ cs : Array Value, cs = #[.int .i64 x.kind, .string x.name, .slice a1 n1 c1, .slice a2 n2 c2, .slice a3 n3 c3, .slice a4 n4 c4, .slice a5 n5 c5] := ⟨_, rfl⟩
 have HNC := Lib.hid hnc
 obtain ⟨U, hU⟩ : ∃ U, U = W.alloc (.cells nc 38) := ⟨_, rfl⟩
 have HB0 : Hid (Blk U W.heap.size 38 nc) := Lib.hid (by rw [hU]; exact Blk.at rfl)
 have HBL : Hid (Below W.heap.size W U) := Lib.hid (by rw [hU]; exact (Below.refl _ _).alloc (Nat.le_refl _) _)
 rw [hnc] at hU
 have HUE := Lib.hid hU
 clear hU hnc
 have HSU : Hid (Shown W B b dv s0 U) := Lib.hid (by have := (Shown.start HW.out).later HBL.out; rwa [HS0.out] at this)
 have C1 := Lib.hid (HSU.out.str2 (Below.refl _ _) ⟨#[99, 97, 115, 101, 32]⟩ (by have := HL4.out; simpa [putS] using this))
 go_enter Tryz.func104, Tryz.ntmps104
 go_wp2_with fail
 rw [← HUE.out]
 refine C1.out.mono ?_
 rintro e w1 ⟨rfl, hs1, hk1⟩
 have HB1 := Lib.hid (hk1 _ _ _ HB0.out (by decide) (by decide) (by decide))
 have HBN := Lib.hid (HNC.out ▸ HB1.out)
 have e0 := (hs1.low.cell hbw).trans hcw0
 have C2 := Lib.hid (hs1.word2 HWD.out (Below.refl _ _) HH.out HYP0.out HFY0.out HL3.out)
 clear hs1 hk1 C1
 obtain ⟨y0, y1, y2, y3, y4, y5, y6, yl⟩ := HBN.out.box7
 go_wp2_with fail
 refine C2.out.mono ?_
 rintro e w2 ⟨rfl, hs2, hk2⟩
 have HB2 := Lib.hid (hk2 _ _ _ HB1.out (by decide) (by decide) (by decide))
 have C3 := Lib.hid (hs2.str2 (Below.refl _ _) ⟨#[32, 105, 110]⟩ (by have := HL2.out; simpa [putS] using this))
 clear hs2 hk2 C2 y0 y1 y2 y3 y4 y5 y6 yl HBN e0
 go_wp2_with fail
 refine C3.out.mono ?_
 rintro e w3 ⟨rfl, hs3, hk3⟩
 have HB3 := Lib.hid (hk3 _ _ _ HB2.out (by decide) (by decide) (by decide))
 have C4 := Lib.hid (hs3.line2 (Below.refl _ _) (by have := HL1.out; rw [← HS1.out] at this; exact this))
 clear hs3 hk3 C3
 go_wp2_with fail
 refine C4.out.mono ?_
 rintro e w4 ⟨rfl, hs4, hk4⟩
 have HB4 := Lib.hid (hk4 _ _ _ HB3.out (by decide) (by decide) (by decide))
 have HS4 : Hid (Shown W B b dv s1 w4) := Lib.hid (by rw [← HS1.out]; exact hs4)
 clear hs4 hk4 C4
 have HBN := Lib.hid (HNC.out ▸ HB4.out)
 obtain ⟨y0, y1, y2, y3, y4, y5, y6, yl⟩ := HBN.out.box7
 go_wp2_with fail
 clear y0 y1 y2 y3 y4 y5 y6 yl HBN
 go_loopw [27] (fun i U => ∃ k : Nat, k ≤ n5 ∧ i = .int .i64 k ∧ Shown W B b dv ((x.arms.take k).foldl (armS wd wl) s1) U ∧ Blk U W.heap.size 38 nc) (fun i _ => n5 - (intOf i).toNat)
 case atStart => exact ⟨0, Nat.zero_le _, rfl, HS4.out, HB4.out⟩
 case round =>
  obtain ⟨k, hk, rfl, hsh, hbk⟩ := hrel
  obtain ⟨wo, rfl⟩ : ∃ wo : World, wo = wr := ⟨_, rfl⟩
  obtain ⟨s, hs⟩ : ∃ s, (x.arms.take k).foldl (armS wd wl) s1 = s := ⟨_, rfl⟩
  rw [hs] at hsh
  have HS := Lib.hid hs
  have HSH := Lib.hid hsh
  have HBK := Lib.hid hbk
  have hlow := hsh.low
  have hleW := hsh.le
  clear hsh hs hbk HB4 HS4
  by_cases hlt : k < n5
  · obtain ⟨y, hy⟩ : ∃ y, x.arms[k]? = .some y := ⟨_, List.getElem?_eq_getElem (by rw [HN.out]; exact hlt)⟩
    obtain ⟨b1, o, c, hi, hbB, hce, hC, _⟩ := HA.out.at 36 90 Tryz.underlying36 (by kernel_rfl) hy
    obtain ⟨a6, c6, a7, c7, rfl, ⟨hz6, hz7⟩, hyw, hyb⟩ := hC.open
    have HSX : Hid ((x.arms.take (k + 1)).foldl (armS wd wl) s1 = armS wd wl s y) := Lib.hid (by rw [fold_take hy, HS.out])
    have hm := List.mem_of_getElem? hy
    have hf := HFA.out y hm
    rw [Bool.and_eq_true] at hf
    have HFW := Lib.hid (List.all_eq_true.1 hf.1)
    have HFB : Hid (fl y.body = true) := Lib.hid hf.2
    have HYB := Lib.hid hyb
    obtain ⟨n6, hn6⟩ : ∃ n, y.words.length = n := ⟨_, rfl⟩
    obtain ⟨n7, hn7⟩ : ∃ n, y.body.length = n := ⟨_, rfl⟩
    have e0 := (hlow.cell hbB).trans (hce 0 _ rfl)
    have e1 := (hlow.cell hbB).trans (hce 1 _ rfl)
    have hbB' := Nat.lt_of_lt_of_le hbB hleW
    rw [Nat.add_zero] at e0
    rw [hn6] at e0 hyw hz6
    rw [hn7] at e1 HYB hz7
    have HYW := Lib.hid hyw
    have N6 := Lib.hid hn6
    obtain ⟨sa, hsa⟩ : ∃ s', barsS wd (putS s [40]) y.words false = s' := ⟨_, rfl⟩
    obtain ⟨sb, hsb⟩ : ∃ s', blockS wl sa [41] y.body = s' := ⟨_, rfl⟩
    have HSY : Hid (armS wd wl s y = lineS (putS sb [59, 59])) := Lib.hid (by rw [armS, hsa, hsb])
    have HSA := Lib.hid hsa
    have HSB := Lib.hid hsb
    have HZ0 : Hid ((lineS (putS sb [59, 59])).1.length ≤ lim) := Lib.hid (by have := HLA.out (k + 1); rwa [HSX.out, HSY.out] at this)
    have HZ1 : Hid ((putS sb [59, 59]).1.length ≤ lim) := Lib.hid (Nat.le_trans (lineS_grow _) HZ0.out)
    have HZ2 : Hid (sb.1.length ≤ lim) := Lib.hid (Nat.le_trans (putS_grow _ _) HZ1.out)
    have HZ3 : Hid (sa.1.length ≤ lim) := Lib.hid (Nat.le_trans (by rw [← hsb]; exact blockS_grow HGL.out _ _ _) HZ2.out)
    have HZ4 : Hid (∀ j, (barsS wd (putS s [40]) (y.words.take j) false).1.length ≤ lim) := Lib.hid fun j => Nat.le_trans (bars_take_le HG.out _ _ _ j) (by rw [hsa]; exact HZ3.out)
    obtain ⟨X, hX⟩ : ∃ X, X = wo.alloc (.cells #[.slice a6 n6 c6, .slice a7 n7 c7] 90) := ⟨_, rfl⟩
    have HBX : Hid (Below wo.heap.size wo X) := Lib.hid (by rw [hX]; exact (Below.refl _ _).alloc (Nat.le_refl _) _)
    have HKX : Hid (Blk X wo.heap.size 90 #[.slice a6 n6 c6, .slice a7 n7 c7]) := Lib.hid (by rw [hX]; exact Blk.new _ _ _)
    have HBKX := Lib.hid (HBK.out.below HBX.out HBK.out.lt)
    have HXE := Lib.hid hX
    have CB := Lib.hid (HSH.out.byte2 HBX.out 40 (by have := HZ4.out 0; simpa [barsS, putS] using this))
    have HBN := Lib.hid (HNC.out ▸ HBK.out)
    obtain ⟨y0, y1, y2, y3, y4, y5, y6, yl⟩ := HBN.out.box7
    clear hy hce hC hX hyw hyb hm hf hn6 hn7 hsa hsb
    go_wp2_with fail
    rw [← HXE.out]
    refine CB.out.mono ?_
    rintro e w5 ⟨rfl, hs5, hk5⟩
    have HB5 := Lib.hid (hk5 _ _ _ HBKX.out (by decide) (by decide) (by decide))
    have HK5 := Lib.hid (hk5 _ _ _ HKX.out (by decide) (by decide) (by decide))
    have HS5 := Lib.hid hs5
    clear hs5 hk5 CB y0 y1 y2 y3 y4 y5 y6 yl HBN
    obtain ⟨z0, z1, zl⟩ := HK5.out.box2
    go_wp2_with fail
    clear z0 z1 zl
    go_loopw [38] (fun i U => ∃ j : Nat, j ≤ n6 ∧ i = .int .i64 j ∧ Shown W B b dv (barsS wd (putS s [40]) (y.words.take j) false) U ∧ Blk U W.heap.size 38 nc ∧ Blk U wo.heap.size 90 #[.slice a6 n6 c6, .slice a7 n7 c7]) (fun i _ => n6 - (intOf i).toNat)
    case atStart => exact ⟨0, Nat.zero_le _, rfl, HS5.out, HB5.out, HK5.out⟩
    case round =>
     obtain ⟨j, hj, rfl, hsh, hbk, hkk⟩ := hrel
     obtain ⟨sj, hsj⟩ : ∃ s', barsS wd (putS s [40]) (y.words.take j) false = s' := ⟨_, rfl⟩
     rw [hsj] at hsh
     have HSJ := Lib.hid hsj
     have HSH2 := Lib.hid hsh
     have HB6 := Lib.hid hbk
     have HK6 := Lib.hid hkk
     have hlow2 := hsh.low
     clear hsh hbk hkk hsj HB5 HK5 HS5
     obtain ⟨z0, z1, zl⟩ := HK6.out.box2
     by_cases hlt2 : j < n6
     · obtain ⟨p, hp⟩ : ∃ p, y.words[j]? = .some p := ⟨_, List.getElem?_eq_getElem (by rw [N6.out]; exact hlt2)⟩
       obtain ⟨b2, o2, c, hi2, hbB2, hce2, ⟨pv, rfl, hpp⟩, _⟩ := HYW.out.at 34 29 Tryz.underlying34 (by kernel_rfl) hp
       obtain ⟨a8, c8, rfl, _⟩ := hpp.shape
       have HP1 : Hid (barsS wd (putS s [40]) (y.words.take (j + 1)) false = wd (bif decide (0 < j) then putS sj [32, 124, 32] else sj) p) := Lib.hid (by
        rw [take_snoc' hp, bars_snoc, HSJ.out, take_empty (by rw [N6.out]; exact hlt2), Bool.false_or])
       have HLP := Lib.hid (HZ4.out (j + 1))
       rw [HP1.out] at HLP
       have HFP : Hid (fw p = true) := Lib.hid (HFW.out p (List.mem_of_getElem? hp))
       have HPP := Lib.hid hpp
       have q0 := (hlow2.cell hbB2).trans (hce2 0 _ rfl)
       rw [Nat.add_zero] at q0
       clear hp hpp
       by_cases h0 : j = 0
       · subst h0
         have hi0 : ∀ w' : World, (Instr.indexAt 34 (.slice a6 n6 c6) (.int .i64 0)).run Tryz.prog w' = .ok (.pointer (some ⟨b2, o2, none⟩)) w' := fun w' => hi2 w'
         have CW := Lib.hid (HSH2.out.word2 HWD.out (Below.refl _ _) HH.out HPP.out HFP.out (by have := HLP.out; simpa using this))
         go_wp2_with fail
         refine CW.out.mono ?_
         rintro e w8 ⟨rfl, hs8, hk8⟩
         have HS8 := Lib.hid hs8
         have HB8 := Lib.hid (hk8 _ _ _ HB6.out (by decide) (by decide) (by decide))
         have HK8 := Lib.hid (hk8 _ _ _ HK6.out (by decide) (by decide) (by decide))
         clear hs8 hk8
         go_wp2_with fail
         go_roundw
         case rel => exact ⟨0 + 1, by omega, by go_num, by rw [HP1.out]; simpa using HS8.out, HB8.out, HK8.out⟩
         case measure => simp [intOf]; omega
       · have hk0 : decide ((0 : Int) < (j : Int)) = true := by simp; omega
         have hk1 : decide (0 < j) = true := by simp; omega
         rw [hk1] at HLP HP1
         have CS := Lib.hid (HSH2.out.str2 (Below.refl _ _) ⟨#[32, 124, 32]⟩ (by
          have h1 := Nat.le_trans (HG.out (putS sj [32, 124, 32]) p) HLP.out
          simpa [putS] using h1))
         go_wp2_with fail
         refine CS.out.mono ?_
         rintro e w7 ⟨rfl, hs7, hk7⟩
         have HB7 := Lib.hid (hk7 _ _ _ HB6.out (by decide) (by decide) (by decide))
         have HK7 := Lib.hid (hk7 _ _ _ HK6.out (by decide) (by decide) (by decide))
         have q0 := (hs7.low.cell hbB2).trans (hce2 0 _ rfl)
         rw [Nat.add_zero] at q0
         have CW := Lib.hid (hs7.word2 HWD.out (Below.refl _ _) HH.out HPP.out HFP.out HLP.out)
         clear hs7 hk7
         go_wp2_with fail
         refine CW.out.mono ?_
         rintro e w8 ⟨rfl, hs8, hk8⟩
         have HS8 := Lib.hid hs8
         have HB8 := Lib.hid (hk8 _ _ _ HB7.out (by decide) (by decide) (by decide))
         have HK8 := Lib.hid (hk8 _ _ _ HK7.out (by decide) (by decide) (by decide))
         clear hs8 hk8
         go_wp2_with fail
         go_roundw
         case rel => exact ⟨j + 1, by omega, by go_num, by rw [HP1.out]; exact HS8.out, HB8.out, HK8.out⟩
         case measure => simp [intOf]; omega
     · have HTK : Hid (y.words.take j = y.words) := Lib.hid (List.take_of_length_le (by rw [N6.out]; omega))
       have HSE : Hid (sj = sa) := Lib.hid (by rw [← HSJ.out, HTK.out]; exact HSA.out)
       rw [HSE.out] at HSH2
       have CK := Lib.hid (HSH2.out.block2 HWL.out HGL.out (Below.refl _ _) HH.out ⟨#[41]⟩ HYB.out HFB.out (by have := HZ2.out; rw [← HSB.out] at this; exact this))
       go_wp2_with fail
       refine CK.out.mono ?_
       rintro e w7 ⟨rfl, hs7, hk7⟩
       have HB7 := Lib.hid (hk7 _ _ _ HB6.out (by decide) (by decide) (by decide))
       have hs7' : Shown W B b dv sb w7 := by rw [← HSB.out]; exact hs7
       have CS := Lib.hid (hs7'.str2 (Below.refl _ _) ⟨#[59, 59]⟩ (by have := HZ1.out; simpa [putS] using this))
       clear hs7 hs7' hk7 z0 z1 zl
       go_wp2_with fail
       refine CS.out.mono ?_
       rintro e w8 ⟨rfl, hs8, hk8⟩
       have HB8 := Lib.hid (hk8 _ _ _ HB7.out (by decide) (by decide) (by decide))
       have CL := Lib.hid (hs8.line2 (Below.refl _ _) HZ0.out)
       clear hs8 hk8
       go_wp2_with fail
       refine CL.out.mono ?_
       rintro e w9 ⟨rfl, hs9, hk9⟩
       have HB9 := Lib.hid (hk9 _ _ _ HB8.out (by decide) (by decide) (by decide))
       have HS9 := Lib.hid hs9
       clear hs9 hk9
       go_wp2_with fail
       go_roundw
       case rel => exact ⟨k + 1, by omega, by go_num, by rw [HSX.out, HSY.out]; exact HS9.out, HB9.out⟩
       case measure => simp [intOf]; omega
  · have HTK : Hid (x.arms.take k = x.arms) := Lib.hid (List.take_of_length_le (by rw [HN.out]; omega))
    rw [HTK.out] at HS
    have CE := Lib.hid (HSH.out.str (Below.refl _ _) ⟨#[101, 115, 97, 99]⟩ (by have := HLEN.out; rw [HS.out] at this; simpa [putS] using this))
    have HBN := Lib.hid (HNC.out ▸ HBK.out)
    obtain ⟨y0, y1, y2, y3, y4, y5, y6, yl⟩ := HBN.out.box7
    go_wp2_with fail
    refine CE.out.mono ?_
    rintro e w5 ⟨rfl, hs5⟩
    have HS5 := Lib.hid hs5
    clear hs5
    go_wp2_with fail
    go_end0
    exact ⟨rfl, by rw [HS.out]; exact HS5.out⟩
end Go.Proofs.YtnackmnoldkihaaGreatDoor
