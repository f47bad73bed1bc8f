/-
  The walk of node; word and list at every level; Right.
-/
import Derived.Test.YtnackmnoldkihaaGreatDoorW11
import Derived.Test.YtnackmnoldkihaaGreatDoorW8
import Derived.Test.YtnackmnoldkihaaGreatDoorW9
import Derived.Test.YtnackmnoldkihaaGreatDoorW10
set_option linter.unusedVariables false
set_option linter.unusedSimpArgs false
/-
  The walk of compound.
-/
namespace Go.Proofs.YtnackmnoldkihaaGreatDoor
open Go.RowKit

set_option maxHeartbeats 2000000 in
set_option maxRecDepth 100000 in
theorem compound_any (wd : List Pt → Bool) (ls : List Nd → Bool) (m : Int) (hwd : WordAt m wd) (hls : ListAt m ls) (x : Nd) (w : World) (d : Nat) (c : List Value) (hv : Held w) (hp : NdC w w.heap.size d x c) :
 Calls Tryz.prog 70 #[.agg #[.int .i64 m], .agg c.toArray] w fun e w' => e = .returned (.bool (compoundB wd ls x)) ∧ Below w.heap.size w w' := by
 have HP := Lib.hid hp
 obtain ⟨a1, c1, a2, c2, a3, c3, a4, c4, a5, c5, rfl, hxz, ⟨hn1, hn2, hn3, hn4, hn5⟩, _⟩ := hp.open
 obtain ⟨n1, hl1⟩ : ∃ n, x.assigns.length = n := ⟨_, rfl⟩
 obtain ⟨n2, hl2⟩ : ∃ n, x.words.length = n := ⟨_, rfl⟩
 obtain ⟨n3, hl3⟩ : ∃ n, x.redirs.length = n := ⟨_, rfl⟩
 obtain ⟨n4, hl4⟩ : ∃ n, x.lists.length = n := ⟨_, rfl⟩
 obtain ⟨n5, hl5⟩ : ∃ n, x.arms.length = n := ⟨_, rfl⟩
 rw [hl1] at hn1
 rw [hl2] at hn2
 rw [hl3] at hn3
 rw [hl4] at hn4
 rw [hl5] at hn5
 rw [hl1, hl2, hl3, hl4, hl5] at HP ⊢
 have CB := Lib.hid fun W hW => bare_nd x W d _ (HP.out.later (w' := W) hW)
 have CL : Hid (∀ (q : Nat) W, q ≤ 3 → Below w.heap.size w W → Calls Tryz.prog 96 #[.agg #[.int .i64 m], .agg #[.int .i64 x.kind, .string x.name, .slice a1 n1 c1, .slice a2 n2 c2, .slice a3 n3 c3, .slice a4 n4 c4, .slice a5 n5 c5], .int .i64 (q : Int)] W fun e w' => e = .returned (.bool (listsB ls x q)) ∧ Below W.heap.size W w') :=
  Lib.hid fun q W hq hW => lists_any ls m hls x q (by omega) W d _ (hv.below hv.2 hW) (HP.out.later hW)
 have L0 : Hid (∀ W, Below w.heap.size w W → Calls Tryz.prog 96 #[.agg #[.int .i64 m], .agg #[.int .i64 x.kind, .string x.name, .slice a1 n1 c1, .slice a2 n2 c2, .slice a3 n3 c3, .slice a4 n4 c4, .slice a5 n5 c5], .int .i64 0] W fun e w' => e = .returned (.bool (listsB ls x 0)) ∧ Below W.heap.size W w') := Lib.hid fun W hW => CL.out 0 W (by omega) hW
 have L1 : Hid (∀ W, Below w.heap.size w W → Calls Tryz.prog 96 #[.agg #[.int .i64 m], .agg #[.int .i64 x.kind, .string x.name, .slice a1 n1 c1, .slice a2 n2 c2, .slice a3 n3 c3, .slice a4 n4 c4, .slice a5 n5 c5], .int .i64 1] W fun e w' => e = .returned (.bool (listsB ls x 1)) ∧ Below W.heap.size W w') := Lib.hid fun W hW => CL.out 1 W (by omega) hW
 have L2 : Hid (∀ W, Below w.heap.size w W → Calls Tryz.prog 96 #[.agg #[.int .i64 m], .agg #[.int .i64 x.kind, .string x.name, .slice a1 n1 c1, .slice a2 n2 c2, .slice a3 n3 c3, .slice a4 n4 c4, .slice a5 n5 c5], .int .i64 2] W fun e w' => e = .returned (.bool (listsB ls x 2)) ∧ Below W.heap.size W w') := Lib.hid fun W hW => CL.out 2 W (by omega) hW
 have L3 : Hid (∀ W, Below w.heap.size w W → Calls Tryz.prog 96 #[.agg #[.int .i64 m], .agg #[.int .i64 x.kind, .string x.name, .slice a1 n1 c1, .slice a2 n2 c2, .slice a3 n3 c3, .slice a4 n4 c4, .slice a5 n5 c5], .int .i64 3] W fun e w' => e = .returned (.bool (listsB ls x 3)) ∧ Below W.heap.size W w') := Lib.hid fun W hW => CL.out 3 W (by omega) hW
 have CA : Hid (∀ W, Below w.heap.size w W → Calls Tryz.prog 97 #[.agg #[.int .i64 m], .agg #[.int .i64 x.kind, .string x.name, .slice a1 n1 c1, .slice a2 n2 c2, .slice a3 n3 c3, .slice a4 n4 c4, .slice a5 n5 c5]] W fun e w' => e = .returned (.bool (x.arms.all (armB wd ls))) ∧ Below W.heap.size W w') :=
  Lib.hid fun W hW => arms_any wd ls m hwd hls x W d _ (hv.below hv.2 hW) (HP.out.later hW)
 have CF : Hid (∀ W, Below w.heap.size w W → Calls Tryz.prog 92 #[.agg #[.int .i64 m], .agg #[.int .i64 x.kind, .string x.name, .slice a1 n1 c1, .slice a2 n2 c2, .slice a3 n3 c3, .slice a4 n4 c4, .slice a5 n5 c5], .int .i64 1, .func (.func 98) #[] #[]] W fun e w' => e = .returned (.bool (aloneB ls x 1 mayFunc)) ∧ Below W.heap.size W w') :=
  Lib.hid fun W hW => alone_any _ (fun _ _ => by kernel_rfl) mayFunc (fun i k W => may_func i k W) ls m hls x 1 (by omega) W d _ (hv.below hv.2 hW) (HP.out.later hW)
 have CN : Hid (∀ W, Below w.heap.size w W → Calls Tryz.prog 21 #[.string x.name] W fun e w' => e = .returned (.bool (nameL (L x.name))) ∧ Below W.heap.size W w') := Lib.hid fun W _ => name_any x.name W (by unfold maxLen; omega)
 have CR : Hid (∀ W, Calls Tryz.prog 27 #[.string x.name] W fun e w' => e = .returned (.bool (oneB reservedWs (L x.name))) ∧ W = w') := Lib.hid fun W => reserved_any x.name W
 have BX := Lib.hid (Bx.start w 67 #[.int .i64 m] 38 #[.int .i64 x.kind, .string x.name, .slice a1 n1 c1, .slice a2 n2 c2, .slice a3 n3 c3, .slice a4 n4 c4, .slice a5 n5 c5])
 obtain ⟨r, hr⟩ : ∃ r, compoundB wd ls x = r := ⟨_, rfl⟩
 rw [hr]
 rw [compoundB, hl2, hl4, nil_of hl1, nil_of hl2, nil_of hl3, nil_of hl5] at hr
 obtain ⟨bb, hbb⟩ : ∃ b, bareN x = b := ⟨_, rfl⟩
 obtain ⟨l0, h0⟩ : ∃ r, listsB ls x 0 = r := ⟨_, rfl⟩
 obtain ⟨l1, h1⟩ : ∃ r, listsB ls x 1 = r := ⟨_, rfl⟩
 obtain ⟨l2, h2⟩ : ∃ r, listsB ls x 2 = r := ⟨_, rfl⟩
 obtain ⟨l3, h3⟩ : ∃ r, listsB ls x 3 = r := ⟨_, rfl⟩
 obtain ⟨ar, har⟩ : ∃ r, x.arms.all (armB wd ls) = r := ⟨_, rfl⟩
 obtain ⟨al, hal⟩ : ∃ r, aloneB ls x 1 mayFunc = r := ⟨_, rfl⟩
 obtain ⟨nm, hnm⟩ : ∃ r, nameL (L x.name) = r := ⟨_, rfl⟩
 obtain ⟨rs, hrs⟩ : ∃ r, oneB reservedWs (L x.name) = r := ⟨_, rfl⟩
 rw [hbb, h0, h1, h2, h3, har, hal, hnm, hrs] at hr
 rw [hbb] at CB
 rw [h0] at L0
 rw [h1] at L1
 rw [h2] at L2
 rw [h3] at L3
 rw [har] at CA
 rw [hal] at CF
 rw [hnm] at CN
 rw [hrs] at CR
 have HR := Lib.hid hr
 obtain ⟨xk, hxk⟩ : ∃ k, x.kind = k := ⟨_, rfl⟩
 rw [hxk] at HR BX HP CB L0 L1 L2 L3 CA CF ⊢
 clear hp hbb h0 h1 h2 h3 har hal hnm hrs hl1 hl2 hl3 hl4 hl5 hr CL hxk
 cases k6 : (xk == 6) with
 | true =>
   have HE : Hid (r = (bb && (l2 || l3))) := Lib.hid (by rw [← HR.out, k6]; rfl)
   go_enter Tryz.func70, Tryz.ntmps70
   go_wp2_with fail
   refine (CB.out _ bg).mono ?_
   rintro e w1 ⟨rfl, hb0⟩
   obtain ⟨hcw1, hfw1⟩ := bcell hb0
   have hzw1 := hb0.size
   try simp only [World.size_alloc, World.size_setCell, World.size_drew, size_drewN] at hzw1
   have hBw1 : Below w.heap.size w w1 := since hb0 bg
   have BXw1 := Lib.hid (Bx.later BX.out (since hb0 bg))
   clear hb0
   have K0BXw1 := Lib.hid BXw1.out.b0
   have K1BXw1 := Lib.hid BXw1.out.b1
   have hBBXw1 := BXw1.out.hb
   obtain ⟨b0, bf, bl⟩ := K0BXw1.out.box1
   obtain ⟨p0, p1, p2, p3, p4, p5, p6, pl⟩ := K1BXw1.out.box7
   cases bb with
   | false =>
     go_wp2_with fail
     go_ret
     exact ⟨ret_bool (by rw [HE.out]; rfl), bg⟩
   | true =>
     go_wp2_with fail
     refine (L2.out _ bg).mono ?_
     rintro e w2 ⟨rfl, hb0⟩
     obtain ⟨hcw2, hfw2⟩ := bcell hb0
     have hzw2 := hb0.size
     try simp only [World.size_alloc, World.size_setCell, World.size_drew, size_drewN] at hzw2
     have hBw2 : Below w.heap.size w w2 := since hb0 bg
     have BXw2 := Lib.hid (Bx.later BXw1.out (since hb0 bg))
     clear hb0
     clear b0 bf bl p0 p1 p2 p3 p4 p5 p6 pl
     have K0BXw2 := Lib.hid BXw2.out.b0
     have K1BXw2 := Lib.hid BXw2.out.b1
     have hBBXw2 := BXw2.out.hb
     obtain ⟨b0, bf, bl⟩ := K0BXw2.out.box1
     obtain ⟨p0, p1, p2, p3, p4, p5, p6, pl⟩ := K1BXw2.out.box7
     cases l2 with
     | true =>
       go_wp2_with fail
       go_ret
       exact ⟨ret_bool (by rw [HE.out]; rfl), bg⟩
     | false =>
       go_wp2_with fail
       refine (L3.out _ bg).mono ?_
       rintro e w3 ⟨rfl, hb0⟩
       obtain ⟨hcw3, hfw3⟩ := bcell hb0
       have hzw3 := hb0.size
       try simp only [World.size_alloc, World.size_setCell, World.size_drew, size_drewN] at hzw3
       have hBw3 : Below w.heap.size w w3 := since hb0 bg
       have BXw3 := Lib.hid (Bx.later BXw2.out (since hb0 bg))
       clear hb0
       go_wp2_with fail
       go_ret
       exact ⟨ret_bool (by rw [HE.out]; rfl), bg⟩
 | false =>
 cases k7 : (xk == 7) with
 | true =>
   have HE : Hid (r = (bb && l2)) := Lib.hid (by rw [← HR.out, k6, k7]; rfl)
   go_enter Tryz.func70, Tryz.ntmps70
   go_wp2_with fail
   refine (CB.out _ bg).mono ?_
   rintro e w1 ⟨rfl, hb0⟩
   obtain ⟨hcw1, hfw1⟩ := bcell hb0
   have hzw1 := hb0.size
   try simp only [World.size_alloc, World.size_setCell, World.size_drew, size_drewN] at hzw1
   have hBw1 : Below w.heap.size w w1 := since hb0 bg
   have BXw1 := Lib.hid (Bx.later BX.out (since hb0 bg))
   clear hb0
   have K0BXw1 := Lib.hid BXw1.out.b0
   have K1BXw1 := Lib.hid BXw1.out.b1
   have hBBXw1 := BXw1.out.hb
   obtain ⟨b0, bf, bl⟩ := K0BXw1.out.box1
   obtain ⟨p0, p1, p2, p3, p4, p5, p6, pl⟩ := K1BXw1.out.box7
   cases bb with
   | false =>
     go_wp2_with fail
     go_ret
     exact ⟨ret_bool (by rw [HE.out]; rfl), bg⟩
   | true =>
     go_wp2_with fail
     refine (L2.out _ bg).mono ?_
     rintro e w2 ⟨rfl, hb0⟩
     obtain ⟨hcw2, hfw2⟩ := bcell hb0
     have hzw2 := hb0.size
     try simp only [World.size_alloc, World.size_setCell, World.size_drew, size_drewN] at hzw2
     have hBw2 : Below w.heap.size w w2 := since hb0 bg
     have BXw2 := Lib.hid (Bx.later BXw1.out (since hb0 bg))
     clear hb0
     (go_wp2_with fail; go_ret; exact ⟨ret_bool (by rw [HE.out]; rfl), bg⟩)
 | false =>
 cases k8 : (xk == 8) with
 | true =>
   have HE : Hid (r = (bb && l2)) := Lib.hid (by rw [← HR.out, k6, k7, k8]; rfl)
   go_enter Tryz.func70, Tryz.ntmps70
   go_wp2_with fail
   refine (CB.out _ bg).mono ?_
   rintro e w1 ⟨rfl, hb0⟩
   obtain ⟨hcw1, hfw1⟩ := bcell hb0
   have hzw1 := hb0.size
   try simp only [World.size_alloc, World.size_setCell, World.size_drew, size_drewN] at hzw1
   have hBw1 : Below w.heap.size w w1 := since hb0 bg
   have BXw1 := Lib.hid (Bx.later BX.out (since hb0 bg))
   clear hb0
   have K0BXw1 := Lib.hid BXw1.out.b0
   have K1BXw1 := Lib.hid BXw1.out.b1
   have hBBXw1 := BXw1.out.hb
   obtain ⟨b0, bf, bl⟩ := K0BXw1.out.box1
   obtain ⟨p0, p1, p2, p3, p4, p5, p6, pl⟩ := K1BXw1.out.box7
   cases bb with
   | false =>
     go_wp2_with fail
     go_ret
     exact ⟨ret_bool (by rw [HE.out]; rfl), bg⟩
   | true =>
     go_wp2_with fail
     refine (L2.out _ bg).mono ?_
     rintro e w2 ⟨rfl, hb0⟩
     obtain ⟨hcw2, hfw2⟩ := bcell hb0
     have hzw2 := hb0.size
     try simp only [World.size_alloc, World.size_setCell, World.size_drew, size_drewN] at hzw2
     have hBw2 : Below w.heap.size w w2 := since hb0 bg
     have BXw2 := Lib.hid (Bx.later BXw1.out (since hb0 bg))
     clear hb0
     (go_wp2_with fail; go_ret; exact ⟨ret_bool (by rw [HE.out]; rfl), bg⟩)
 | false =>
 cases k12 : (xk == 12) with
 | true =>
   have HE : Hid (r = (bb && l1)) := Lib.hid (by rw [← HR.out, k6, k7, k8, k12]; rfl)
   go_enter Tryz.func70, Tryz.ntmps70
   go_wp2_with fail
   refine (CB.out _ bg).mono ?_
   rintro e w1 ⟨rfl, hb0⟩
   obtain ⟨hcw1, hfw1⟩ := bcell hb0
   have hzw1 := hb0.size
   try simp only [World.size_alloc, World.size_setCell, World.size_drew, size_drewN] at hzw1
   have hBw1 : Below w.heap.size w w1 := since hb0 bg
   have BXw1 := Lib.hid (Bx.later BX.out (since hb0 bg))
   clear hb0
   have K0BXw1 := Lib.hid BXw1.out.b0
   have K1BXw1 := Lib.hid BXw1.out.b1
   have hBBXw1 := BXw1.out.hb
   obtain ⟨b0, bf, bl⟩ := K0BXw1.out.box1
   obtain ⟨p0, p1, p2, p3, p4, p5, p6, pl⟩ := K1BXw1.out.box7
   cases bb with
   | false =>
     go_wp2_with fail
     go_ret
     exact ⟨ret_bool (by rw [HE.out]; rfl), bg⟩
   | true =>
     go_wp2_with fail
     refine (L1.out _ bg).mono ?_
     rintro e w2 ⟨rfl, hb0⟩
     obtain ⟨hcw2, hfw2⟩ := bcell hb0
     have hzw2 := hb0.size
     try simp only [World.size_alloc, World.size_setCell, World.size_drew, size_drewN] at hzw2
     have hBw2 : Below w.heap.size w w2 := since hb0 bg
     have BXw2 := Lib.hid (Bx.later BXw1.out (since hb0 bg))
     clear hb0
     (go_wp2_with fail; go_ret; exact ⟨ret_bool (by rw [HE.out]; rfl), bg⟩)
 | false =>
 cases k13 : (xk == 13) with
 | true =>
   have HE : Hid (r = (bb && l1)) := Lib.hid (by rw [← HR.out, k6, k7, k8, k12, k13]; rfl)
   go_enter Tryz.func70, Tryz.ntmps70
   go_wp2_with fail
   refine (CB.out _ bg).mono ?_
   rintro e w1 ⟨rfl, hb0⟩
   obtain ⟨hcw1, hfw1⟩ := bcell hb0
   have hzw1 := hb0.size
   try simp only [World.size_alloc, World.size_setCell, World.size_drew, size_drewN] at hzw1
   have hBw1 : Below w.heap.size w w1 := since hb0 bg
   have BXw1 := Lib.hid (Bx.later BX.out (since hb0 bg))
   clear hb0
   have K0BXw1 := Lib.hid BXw1.out.b0
   have K1BXw1 := Lib.hid BXw1.out.b1
   have hBBXw1 := BXw1.out.hb
   obtain ⟨b0, bf, bl⟩ := K0BXw1.out.box1
   obtain ⟨p0, p1, p2, p3, p4, p5, p6, pl⟩ := K1BXw1.out.box7
   cases bb with
   | false =>
     go_wp2_with fail
     go_ret
     exact ⟨ret_bool (by rw [HE.out]; rfl), bg⟩
   | true =>
     go_wp2_with fail
     refine (L1.out _ bg).mono ?_
     rintro e w2 ⟨rfl, hb0⟩
     obtain ⟨hcw2, hfw2⟩ := bcell hb0
     have hzw2 := hb0.size
     try simp only [World.size_alloc, World.size_setCell, World.size_drew, size_drewN] at hzw2
     have hBw2 : Below w.heap.size w w2 := since hb0 bg
     have BXw2 := Lib.hid (Bx.later BXw1.out (since hb0 bg))
     clear hb0
     (go_wp2_with fail; go_ret; exact ⟨ret_bool (by rw [HE.out]; rfl), bg⟩)
 | false =>
 cases k9 : (xk == 9) with
 | true =>
   have HE : Hid (r = (nm && ((decide (n1 = 0) && decide (n5 = 0)) && l1))) := Lib.hid (by rw [← HR.out, k6, k7, k8, k12, k13, k9]; rfl)
   go_enter Tryz.func70, Tryz.ntmps70
   go_wp2_with fail
   refine (CN.out _ bg).mono ?_
   rintro e w1 ⟨rfl, hb0⟩
   obtain ⟨hcw1, hfw1⟩ := bcell hb0
   have hzw1 := hb0.size
   try simp only [World.size_alloc, World.size_setCell, World.size_drew, size_drewN] at hzw1
   have hBw1 : Below w.heap.size w w1 := since hb0 bg
   have BXw1 := Lib.hid (Bx.later BX.out (since hb0 bg))
   clear hb0
   have K0BXw1 := Lib.hid BXw1.out.b0
   have K1BXw1 := Lib.hid BXw1.out.b1
   have hBBXw1 := BXw1.out.hb
   obtain ⟨b0, bf, bl⟩ := K0BXw1.out.box1
   obtain ⟨p0, p1, p2, p3, p4, p5, p6, pl⟩ := K1BXw1.out.box7
   cases nm with
   | false =>
     go_wp2_with fail
     go_ret
     exact ⟨ret_bool (by rw [HE.out]; rfl), bg⟩
   | true =>
     by_cases h15 : n1 + n5 = 0
     · have e1 : ((n1 : Int) + (n5 : Int) == 0) = true := by rw [beq_iff_eq]; omega
       rw [decide_eq_true (show n1 = 0 by omega), decide_eq_true (show n5 = 0 by omega)] at HE
       clear h15
       go_wp2_with fail
       refine (L1.out _ bg).mono ?_
       rintro e w2 ⟨rfl, hb0⟩
       obtain ⟨hcw2, hfw2⟩ := bcell hb0
       have hzw2 := hb0.size
       try simp only [World.size_alloc, World.size_setCell, World.size_drew, size_drewN] at hzw2
       have hBw2 : Below w.heap.size w w2 := since hb0 bg
       have BXw2 := Lib.hid (Bx.later BXw1.out (since hb0 bg))
       clear hb0
       go_wp2_with fail
       go_ret
       exact ⟨ret_bool (by rw [HE.out]; rfl), bg⟩
     · have e1 : ((n1 : Int) + (n5 : Int) == 0) = false := by rw [beq_eq_false_iff_ne]; omega
       have HE2 : Hid (r = false) := Lib.hid (by
        rw [HE.out, show (decide (n1 = 0) && decide (n5 = 0)) = false by rw [Bool.eq_false_iff]; simp; omega]; rfl)
       clear h15
       go_wp2_with fail
       go_ret
       exact ⟨ret_bool HE2.out.symm, bg⟩
 | false =>
 cases k10 : (xk == 10) with
 | true =>
   have HE : Hid (r = ((L x.name).isEmpty && (decide (n1 = 0) && (decide (n2 = 1) && (l0 && ar))))) := Lib.hid (by rw [← HR.out, k6, k7, k8, k12, k13, k9, k10]; rfl)
   cases hne : (L x.name).isEmpty with
   | false =>
     have e5 : x.name.toList.isEmpty = false := by rw [isEmpty_L]; exact hne
     rw [hne] at HE
     clear hne
     go_enter Tryz.func70, Tryz.ntmps70
     go_wp2_with fail
     go_ret
     exact ⟨ret_bool (by rw [HE.out]; rfl), bg⟩
   | true =>
     have e5 : x.name.toList.isEmpty = true := by rw [isEmpty_L]; exact hne
     rw [hne] at HE
     clear hne
     rcases Nat.eq_zero_or_pos n1 with h1 | h1
     · subst h1
       by_cases h2 : n2 = 1
       · subst h2
         rw [decide_eq_true rfl, decide_eq_true rfl] at HE
         go_enter Tryz.func70, Tryz.ntmps70
         go_wp2_with fail
         refine (L0.out _ bg).mono ?_
         rintro e w1 ⟨rfl, hb0⟩
         obtain ⟨hcw1, hfw1⟩ := bcell hb0
         have hzw1 := hb0.size
         try simp only [World.size_alloc, World.size_setCell, World.size_drew, size_drewN] at hzw1
         have hBw1 : Below w.heap.size w w1 := since hb0 bg
         have BXw1 := Lib.hid (Bx.later BX.out (since hb0 bg))
         clear hb0
         have K0BXw1 := Lib.hid BXw1.out.b0
         have K1BXw1 := Lib.hid BXw1.out.b1
         have hBBXw1 := BXw1.out.hb
         obtain ⟨b0, bf, bl⟩ := K0BXw1.out.box1
         obtain ⟨p0, p1, p2, p3, p4, p5, p6, pl⟩ := K1BXw1.out.box7
         cases l0 with
         | false =>
           go_wp2_with fail
           go_ret
           exact ⟨ret_bool (by rw [HE.out]; rfl), bg⟩
         | true =>
           go_wp2_with fail
           refine (CA.out _ bg).mono ?_
           rintro e w2 ⟨rfl, hb0⟩
           obtain ⟨hcw2, hfw2⟩ := bcell hb0
           have hzw2 := hb0.size
           try simp only [World.size_alloc, World.size_setCell, World.size_drew, size_drewN] at hzw2
           have hBw2 : Below w.heap.size w w2 := since hb0 bg
           have BXw2 := Lib.hid (Bx.later BXw1.out (since hb0 bg))
           clear hb0
           go_wp2_with fail
           go_ret
           exact ⟨ret_bool (by rw [HE.out]; rfl), bg⟩
       · rw [decide_eq_false h2] at HE
         have e2 : ((n2 : Int) == 1) = false := by rw [beq_eq_false_iff_ne]; omega
         clear h2
         go_enter Tryz.func70, Tryz.ntmps70
         go_wp2_with fail
         go_ret
         exact ⟨ret_bool (by rw [HE.out]; rfl), bg⟩
     · rw [decide_eq_false (show ¬ n1 = 0 by omega)] at HE
       have e2 : ((n1 : Int) == 0) = false := by rw [beq_eq_false_iff_ne]; omega
       clear h1
       go_enter Tryz.func70, Tryz.ntmps70
       go_wp2_with fail
       go_ret
       exact ⟨ret_bool (by rw [HE.out]; rfl), bg⟩
 | false =>
 cases k11 : (xk == 11) with
 | true =>
   have HE : Hid (r = (nm && (!rs && ((decide (n1 = 0) && (decide (n2 = 0) && (decide (n5 = 0) && decide (n3 = 0)))) && (decide (n4 = 1) && al))))) := Lib.hid (by rw [← HR.out, k6, k7, k8, k12, k13, k9, k10, k11]; rfl)
   go_enter Tryz.func70, Tryz.ntmps70
   go_wp2_with fail
   refine (CF.out _ bg).mono ?_
   rintro e w1 ⟨rfl, hb0⟩
   obtain ⟨hcw1, hfw1⟩ := bcell hb0
   have hzw1 := hb0.size
   try simp only [World.size_alloc, World.size_setCell, World.size_drew, size_drewN] at hzw1
   have hBw1 : Below w.heap.size w w1 := since hb0 bg
   have BXw1 := Lib.hid (Bx.later BX.out (since hb0 bg))
   clear hb0
   have K0BXw1 := Lib.hid BXw1.out.b0
   have K1BXw1 := Lib.hid BXw1.out.b1
   have hBBXw1 := BXw1.out.hb
   obtain ⟨b0, bf, bl⟩ := K0BXw1.out.box1
   obtain ⟨p0, p1, p2, p3, p4, p5, p6, pl⟩ := K1BXw1.out.box7
   go_wp2_with fail
   refine (CN.out _ bg).mono ?_
   rintro e w2 ⟨rfl, hb0⟩
   obtain ⟨hcw2, hfw2⟩ := bcell hb0
   have hzw2 := hb0.size
   try simp only [World.size_alloc, World.size_setCell, World.size_drew, size_drewN] at hzw2
   have hBw2 : Below w.heap.size w w2 := since hb0 bg
   have BXw2 := Lib.hid (Bx.later BXw1.out (since hb0 bg))
   clear hb0
   clear b0 bf bl p0 p1 p2 p3 p4 p5 p6 pl
   have K0BXw2 := Lib.hid BXw2.out.b0
   have K1BXw2 := Lib.hid BXw2.out.b1
   have hBBXw2 := BXw2.out.hb
   obtain ⟨b0, bf, bl⟩ := K0BXw2.out.box1
   obtain ⟨p0, p1, p2, p3, p4, p5, p6, pl⟩ := K1BXw2.out.box7
   cases nm with
   | false =>
     go_wp2_with fail
     go_ret
     exact ⟨ret_bool (by rw [HE.out]; rfl), bg⟩
   | true =>
     go_wp2_with fail
     refine (CR.out _).mono ?_
     rintro e w1 ⟨rfl, rfl⟩
     cases rs with
     | true =>
       go_wp2_with fail
       go_ret
       exact ⟨ret_bool (by rw [HE.out]; rfl), bg⟩
     | false =>
       by_cases h0 : n1 + n2 + n5 + n3 = 0
       · have e1 : ((n1 : Int) + (n2 : Int) + (n5 : Int) + (n3 : Int) == 0) = true := by rw [beq_iff_eq]; omega
         rw [decide_eq_true (show n1 = 0 by omega), decide_eq_true (show n2 = 0 by omega), decide_eq_true (show n5 = 0 by omega), decide_eq_true (show n3 = 0 by omega)] at HE
         clear h0
         by_cases h4 : n4 = 1
         · have e2 : ((n4 : Int) == 1) = true := by rw [beq_iff_eq]; omega
           rw [decide_eq_true h4] at HE
           clear h4
           go_wp2_with fail
           go_ret
           exact ⟨ret_bool (by rw [HE.out]; rfl), bg⟩
         · have e2 : ((n4 : Int) == 1) = false := by rw [beq_eq_false_iff_ne]; omega
           rw [decide_eq_false h4] at HE
           clear h4
           go_wp2_with fail
           go_ret
           exact ⟨ret_bool (by rw [HE.out]; rfl), bg⟩
       · have e1 : ((n1 : Int) + (n2 : Int) + (n5 : Int) + (n3 : Int) == 0) = false := by rw [beq_eq_false_iff_ne]; omega
         have HE2 : Hid (r = false) := Lib.hid (by
          rw [HE.out, show (decide (n1 = 0) && (decide (n2 = 0) && (decide (n5 = 0) && decide (n3 = 0)))) = false by rw [Bool.eq_false_iff]; simp; omega]; rfl)
         clear h0
         go_wp2_with fail
         go_ret
         exact ⟨ret_bool HE2.out.symm, bg⟩
 | false =>
   have HE : Hid (r = false) := Lib.hid (by rw [← HR.out, k6, k7, k8, k12, k13, k9, k10, k11]; rfl)
   go_enter Tryz.func70, Tryz.ntmps70
   go_wp2_with fail
   go_ret
   exact ⟨ret_bool HE.out.symm, bg⟩
end Go.Proofs.YtnackmnoldkihaaGreatDoor
namespace Go.Proofs.YtnackmnoldkihaaGreatDoor
open Go.RowKit

set_option maxHeartbeats 1000000 in
set_option maxRecDepth 100000 in
theorem node_no (m : Int) (hm : m ≤ 0) (x : Nd) (w : World) (d : Nat) (c : List Value) (hp : NdC w w.heap.size d x c) :
 Calls Tryz.prog 54 #[.agg #[.int .i64 m], .agg c.toArray] w fun e w' => e = .returned (.bool false) ∧ Below w.heap.size w w' := by
 obtain ⟨a1, c1, a2, c2, a3, c3, a4, c4, a5, c5, rfl, _⟩ := hp.open
 have CD := Lib.hid fun W => deeper_no m W hm
 have BX := Lib.hid (Bx.start w 67 #[.int .i64 m] 38 #[.int .i64 x.kind, .string x.name, .slice a1 x.assigns.length c1, .slice a2 x.words.length c2, .slice a3 x.redirs.length c3, .slice a4 x.lists.length c4, .slice a5 x.arms.length c5])
 clear hp
 go_enter Tryz.func54, Tryz.ntmps54
 go_wp2_with fail
 refine (CD.out _).mono ?_
 rintro e w1 ⟨m', rfl, hb0⟩
 have BXw1 := Lib.hid (Bx.later BX.out hb0)
 clear hb0
 have K0BXw1 := Lib.hid BXw1.out.b0
 have K1BXw1 := Lib.hid BXw1.out.b1
 have hBBXw1 := BXw1.out.hb
 obtain ⟨b0, bf, bl⟩ := K0BXw1.out.box1
 obtain ⟨p0, p1, p2, p3, p4, p5, p6, pl⟩ := K1BXw1.out.box7
 go_wp2_with fail
 go_ret
 exact ⟨ret_bool rfl, bg⟩

set_option maxHeartbeats 1000000 in
set_option maxRecDepth 100000 in
theorem node_yes (wd : List Pt → Bool) (ls : List Nd → Bool) (m : Int) (hm : 0 < m) (hm2 : m ≤ 9223372036854775807) (hwd : WordAt (m - 1) wd) (hls : ListAt (m - 1) ls) (x : Nd) (w : World) (d : Nat) (c : List Value) (hv : Held w) (hp : NdC w w.heap.size d x c) :
 Calls Tryz.prog 54 #[.agg #[.int .i64 m], .agg c.toArray] w fun e w' => e = .returned (.bool (nodeB wd ls x)) ∧ Below w.heap.size w w' := by
 have HP := Lib.hid hp
 obtain ⟨a1, c1, a2, c2, a3, c3, a4, c4, a5, c5, rfl, hxz, ⟨hn1, hn2, hn3, hn4, hn5⟩, hA, hW, hRd, _⟩ := hp.open
 obtain ⟨n1, hl1⟩ : ∃ n, x.assigns.length = n := ⟨_, rfl⟩
 obtain ⟨n2, hl2⟩ : ∃ n, x.words.length = n := ⟨_, rfl⟩
 obtain ⟨n3, hl3⟩ : ∃ n, x.redirs.length = n := ⟨_, rfl⟩
 obtain ⟨n4, hl4⟩ : ∃ n, x.lists.length = n := ⟨_, rfl⟩
 obtain ⟨n5, hl5⟩ : ∃ n, x.arms.length = n := ⟨_, rfl⟩
 rw [hl2] at hn2 hW
 rw [hl3] at hn3 hRd
 rw [hl1, hl2, hl3, hl4, hl5] at HP ⊢
 have CD := Lib.hid fun W => deeper_yes m W hm hm2
 have CS : Hid (∀ W, Below w.heap.size w W → Calls Tryz.prog 68 #[.agg #[.int .i64 (m - 1)], .agg #[.int .i64 x.kind, .string x.name, .slice a1 n1 c1, .slice a2 n2 c2, .slice a3 n3 c3, .slice a4 n4 c4, .slice a5 n5 c5]] W fun e w' => e = .returned (.bool (simpleB wd x)) ∧ Below W.heap.size W w') :=
  Lib.hid fun W hW => simple_any wd (m - 1) hwd x W d _ (hv.below hv.2 hW) (HP.out.later hW)
 have CJ : Hid (∀ W, Below w.heap.size w W → Calls Tryz.prog 69 #[.agg #[.int .i64 (m - 1)], .agg #[.int .i64 x.kind, .string x.name, .slice a1 n1 c1, .slice a2 n2 c2, .slice a3 n3 c3, .slice a4 n4 c4, .slice a5 n5 c5]] W fun e w' => e = .returned (.bool (joinedB ls x)) ∧ Below W.heap.size W w') :=
  Lib.hid fun W hW => joined_any ls (m - 1) hls x W d _ (hv.below hv.2 hW) (HP.out.later hW)
 have CC : Hid (∀ W, Below w.heap.size w W → Calls Tryz.prog 70 #[.agg #[.int .i64 (m - 1)], .agg #[.int .i64 x.kind, .string x.name, .slice a1 n1 c1, .slice a2 n2 c2, .slice a3 n3 c3, .slice a4 n4 c4, .slice a5 n5 c5]] W fun e w' => e = .returned (.bool (compoundB wd ls x)) ∧ Below W.heap.size W w') :=
  Lib.hid fun W hW => compound_any wd ls (m - 1) hwd hls x W d _ (hv.below hv.2 hW) (HP.out.later hW)
 have HW := Lib.hid hW
 have HRD := Lib.hid hRd
 have HV := Lib.hid hv
 have HWD := Lib.hid hwd
 have N2 := Lib.hid hl2
 have N3 := Lib.hid hl3
 have BX := Lib.hid (Bx.start w 67 #[.int .i64 m] 38 #[.int .i64 x.kind, .string x.name, .slice a1 n1 c1, .slice a2 n2 c2, .slice a3 n3 c3, .slice a4 n4 c4, .slice a5 n5 c5])
 obtain ⟨r, hr⟩ : ∃ r, nodeB wd ls x = r := ⟨_, rfl⟩
 rw [hr]
 rw [nodeB] at hr
 obtain ⟨rs, hrs⟩ : ∃ r, simpleB wd x = r := ⟨_, rfl⟩
 obtain ⟨rj, hrj⟩ : ∃ r, joinedB ls x = r := ⟨_, rfl⟩
 obtain ⟨rc, hrc⟩ : ∃ r, compoundB wd ls x = r := ⟨_, rfl⟩
 rw [hrs, hrj, hrc] at hr
 rw [hrs] at CS
 rw [hrj] at CJ
 rw [hrc] at CC
 have HR := Lib.hid hr
 clear hp hl1 hl2 hl3 hl4 hl5 hA hW hRd hv hwd hls hr hrs hrj hrc
 go_enter Tryz.func54, Tryz.ntmps54
 go_wp2_with fail
 refine (CD.out _).mono ?_
 rintro e w1 ⟨rfl, hb0⟩
 have BXw1 := Lib.hid (Bx.later BX.out hb0)
 have BX1 := Lib.hid (Bx.set0 BXw1.out 0 (.int .i64 (m - 1)))
 clear hb0
 have K0BXw1 := Lib.hid BXw1.out.b0
 have K1BXw1 := Lib.hid BXw1.out.b1
 have hBBXw1 := BXw1.out.hb
 obtain ⟨b0, bf, bl⟩ := K0BXw1.out.box1
 obtain ⟨p0, p1, p2, p3, p4, p5, p6, pl⟩ := K1BXw1.out.box7
 go_wp2_with fail
 go_loopw [20] (fun i W => ∃ k : Nat, k ≤ n2 ∧ i = .int .i64 k ∧ (x.words.take k).all (someB wd) = true ∧ Bx w W 67 #[.int .i64 (m - 1)] 38 #[.int .i64 x.kind, .string x.name, .slice a1 n1 c1, .slice a2 n2 c2, .slice a3 n3 c3, .slice a4 n4 c4, .slice a5 n5 c5]) (fun i _ => n2 - (intOf i).toNat)
 case atStart => exact ⟨0, Nat.zero_le _, rfl, by simp, BX1.out⟩
 case round =>
  obtain ⟨k, hk, rfl, hal, hbx⟩ := hrel
  have HAL := Lib.hid hal
  have BX2 := Lib.hid hbx
  clear hal hbx b0 bf bl p0 p1 p2 p3 p4 p5 p6 pl
  have K0BX2 := Lib.hid BX2.out.b0
  have K1BX2 := Lib.hid BX2.out.b1
  have hBBX2 := BX2.out.hb
  obtain ⟨b0, bf, bl⟩ := K0BX2.out.box1
  obtain ⟨p0, p1, p2, p3, p4, p5, p6, pl⟩ := K1BX2.out.box7
  by_cases hlt : k < n2
  · obtain ⟨y, hy⟩ : ∃ y, x.words[k]? = .some y := ⟨_, List.getElem?_eq_getElem (by rw [N2.out]; exact hlt)⟩
    obtain ⟨b, o, c, hi, hbB, hce, ⟨yv, rfl, hyp⟩, _⟩ := HW.out.at 34 29 Tryz.underlying34 (by kernel_rfl) hy
    have HY := Lib.hid hy
    obtain ⟨a6, c6, rfl, _⟩ := hyp.shape
    have CW := Lib.hid (HWD.out.reads HV.out hyp true)
    have e0 := (hBBX2.cell hbB).trans (hce 0 _ rfl)
    have hbB' := Nat.lt_of_lt_of_le hbB hBBX2.size
    rw [Nat.add_zero] at e0
    obtain ⟨rr, hrr⟩ : ∃ r, (wd y && (!true || !y.isEmpty)) = r := ⟨_, rfl⟩
    rw [hrr] at CW
    have HS : Hid (someB wd y = rr) := Lib.hid (by rw [← hrr, someB]; simp)
    clear hy hce hyp hrr
    go_wp2_with fail
    refine (CW.out _ bg).mono ?_
    rintro e w4 ⟨rfl, hb0⟩
    obtain ⟨hcw4, hfw4⟩ := bcell hb0
    have hzw4 := hb0.size
    try simp only [World.size_alloc, World.size_setCell, World.size_drew, size_drewN] at hzw4
    have hBw4 : Below w.heap.size w w4 := since hb0 bg
    have BXw4 := Lib.hid (Bx.later BX2.out (since hb0 bg))
    clear hb0
    cases rr with
    | false =>
      have HE : Hid (r = false) := Lib.hid (by rw [← HR.out, all_no HY.out HS.out]; rfl)
      go_wp2_with fail
      go_ret
      exact ⟨ret_bool HE.out.symm, bg⟩
    | true =>
      go_wp2_with fail
      go_roundw
      case rel => exact ⟨k + 1, by omega, by go_num, all_to HAL.out HY.out HS.out, BXw4.out⟩
      case measure => simp [intOf]; omega
  · have HALL : Hid (x.words.all (someB wd) = true) := Lib.hid (all_end HAL.out (by rw [N2.out]; omega))
    clear HAL
    go_wp2_with fail
    go_loopw [32] (fun i W => ∃ k : Nat, k ≤ n3 ∧ i = .int .i64 k ∧ (x.redirs.take k).all (redirB wd) = true ∧ Bx w W 67 #[.int .i64 (m - 1)] 38 #[.int .i64 x.kind, .string x.name, .slice a1 n1 c1, .slice a2 n2 c2, .slice a3 n3 c3, .slice a4 n4 c4, .slice a5 n5 c5]) (fun i _ => n3 - (intOf i).toNat)
    case atStart => exact ⟨0, Nat.zero_le _, rfl, by simp, BX2.out⟩
    case round =>
     obtain ⟨j, hj, rfl, hal2, hbx2⟩ := hrel
     have HAL2 := Lib.hid hal2
     have BX3 := Lib.hid hbx2
     clear hal2 hbx2 b0 bf bl p0 p1 p2 p3 p4 p5 p6 pl
     have K0BX3 := Lib.hid BX3.out.b0
     have K1BX3 := Lib.hid BX3.out.b1
     have hBBX3 := BX3.out.hb
     obtain ⟨b0, bf, bl⟩ := K0BX3.out.box1
     obtain ⟨p0, p1, p2, p3, p4, p5, p6, pl⟩ := K1BX3.out.box7
     by_cases hlt2 : j < n3
     · obtain ⟨y, hy⟩ : ∃ y, x.redirs[j]? = .some y := ⟨_, List.getElem?_eq_getElem (by rw [N3.out]; exact hlt2)⟩
       obtain ⟨b, o, c, hi, hbB, hce, hC, _⟩ := HRD.out.at 32 31 Tryz.underlying32 (by kernel_rfl) hy
       have HY := Lib.hid hy
       have HC := Lib.hid hC
       obtain ⟨a6, c6, rfl, _⟩ := hC.open
       have CR := Lib.hid fun W hW => redir_any wd (m - 1) HWD.out y W d _ (HV.out.below HV.out.2 hW) (HC.out.later (w' := W) hW)
       have e0 := (hBBX3.cell hbB).trans (hce 0 _ rfl)
       have e1 := (hBBX3.cell hbB).trans (hce 1 _ rfl)
       have e2 := (hBBX3.cell hbB).trans (hce 2 _ rfl)
       have e3 := (hBBX3.cell hbB).trans (hce 3 _ rfl)
       have hbB' := Nat.lt_of_lt_of_le hbB hBBX3.size
       rw [Nat.add_zero] at e0
       obtain ⟨rr, hrr⟩ : ∃ r, redirB wd y = r := ⟨_, rfl⟩
       rw [hrr] at CR
       have HS := Lib.hid hrr
       clear hy hce hC hrr
       go_wp2_with fail
       refine (CR.out _ bg).mono ?_
       rintro e w4 ⟨rfl, hb0⟩
       obtain ⟨hcw4, hfw4⟩ := bcell hb0
       have hzw4 := hb0.size
       try simp only [World.size_alloc, World.size_setCell, World.size_drew, size_drewN] at hzw4
       have hBw4 : Below w.heap.size w w4 := since hb0 bg
       have BXw4 := Lib.hid (Bx.later BX3.out (since hb0 bg))
       clear hb0
       cases rr with
       | false =>
         have HE : Hid (r = false) := Lib.hid (by rw [← HR.out, all_no HY.out HS.out]; simp)
         go_wp2_with fail
         go_ret
         exact ⟨ret_bool HE.out.symm, bg⟩
       | true =>
         go_wp2_with fail
         go_roundw
         case rel => exact ⟨j + 1, by omega, by go_num, all_to HAL2.out HY.out HS.out, BXw4.out⟩
         case measure => simp [intOf]; omega
     · have HR2 : Hid (r = (bif x.kind == 1 then rs else bif (x.kind == 2 || x.kind == 3) || (x.kind == 4 || x.kind == 5) then rj else rc)) := Lib.hid (by rw [← HR.out, HALL.out, all_end HAL2.out (by rw [N3.out]; omega)]; rfl)
       cases k1 : (x.kind == 1) with
       | true =>
         have HE : Hid (r = rs) := Lib.hid (by rw [HR2.out, k1]; rfl)
         go_wp2_with fail
         refine (CS.out _ bg).mono ?_
         rintro e w5 ⟨rfl, hb0⟩
         obtain ⟨hcw5, hfw5⟩ := bcell hb0
         have hzw5 := hb0.size
         try simp only [World.size_alloc, World.size_setCell, World.size_drew, size_drewN] at hzw5
         have hBw5 : Below w.heap.size w w5 := since hb0 bg
         have BXw5 := Lib.hid (Bx.later BX3.out (since hb0 bg))
         clear hb0
         go_wp2_with fail
         go_ret
         exact ⟨ret_bool HE.out.symm, bg⟩
       | false =>
       cases k2 : (x.kind == 2) with
       | true =>
         have HE : Hid (r = rj) := Lib.hid (by rw [HR2.out, k1, k2]; rfl)
         go_wp2_with fail
         refine (CJ.out _ bg).mono ?_
         rintro e w5 ⟨rfl, hb0⟩
         obtain ⟨hcw5, hfw5⟩ := bcell hb0
         have hzw5 := hb0.size
         try simp only [World.size_alloc, World.size_setCell, World.size_drew, size_drewN] at hzw5
         have hBw5 : Below w.heap.size w w5 := since hb0 bg
         have BXw5 := Lib.hid (Bx.later BX3.out (since hb0 bg))
         clear hb0
         go_wp2_with fail
         go_ret
         exact ⟨ret_bool HE.out.symm, bg⟩
       | false =>
       cases k3 : (x.kind == 3) with
       | true =>
         have HE : Hid (r = rj) := Lib.hid (by rw [HR2.out, k1, k2, k3]; rfl)
         go_wp2_with fail
         refine (CJ.out _ bg).mono ?_
         rintro e w5 ⟨rfl, hb0⟩
         obtain ⟨hcw5, hfw5⟩ := bcell hb0
         have hzw5 := hb0.size
         try simp only [World.size_alloc, World.size_setCell, World.size_drew, size_drewN] at hzw5
         have hBw5 : Below w.heap.size w w5 := since hb0 bg
         have BXw5 := Lib.hid (Bx.later BX3.out (since hb0 bg))
         clear hb0
         go_wp2_with fail
         go_ret
         exact ⟨ret_bool HE.out.symm, bg⟩
       | false =>
       cases k4 : (x.kind == 4) with
       | true =>
         have HE : Hid (r = rj) := Lib.hid (by rw [HR2.out, k1, k2, k3, k4]; rfl)
         go_wp2_with fail
         refine (CJ.out _ bg).mono ?_
         rintro e w5 ⟨rfl, hb0⟩
         obtain ⟨hcw5, hfw5⟩ := bcell hb0
         have hzw5 := hb0.size
         try simp only [World.size_alloc, World.size_setCell, World.size_drew, size_drewN] at hzw5
         have hBw5 : Below w.heap.size w w5 := since hb0 bg
         have BXw5 := Lib.hid (Bx.later BX3.out (since hb0 bg))
         clear hb0
         go_wp2_with fail
         go_ret
         exact ⟨ret_bool HE.out.symm, bg⟩
       | false =>
       cases k5 : (x.kind == 5) with
       | true =>
         have HE : Hid (r = rj) := Lib.hid (by rw [HR2.out, k1, k2, k3, k4, k5]; rfl)
         go_wp2_with fail
         refine (CJ.out _ bg).mono ?_
         rintro e w5 ⟨rfl, hb0⟩
         obtain ⟨hcw5, hfw5⟩ := bcell hb0
         have hzw5 := hb0.size
         try simp only [World.size_alloc, World.size_setCell, World.size_drew, size_drewN] at hzw5
         have hBw5 : Below w.heap.size w w5 := since hb0 bg
         have BXw5 := Lib.hid (Bx.later BX3.out (since hb0 bg))
         clear hb0
         go_wp2_with fail
         go_ret
         exact ⟨ret_bool HE.out.symm, bg⟩
       | false =>
         have HE : Hid (r = rc) := Lib.hid (by rw [HR2.out, k1, k2, k3, k4, k5]; rfl)
         go_wp2_with fail
         refine (CC.out _ bg).mono ?_
         rintro e w5 ⟨rfl, hb0⟩
         obtain ⟨hcw5, hfw5⟩ := bcell hb0
         have hzw5 := hb0.size
         try simp only [World.size_alloc, World.size_setCell, World.size_drew, size_drewN] at hzw5
         have hBw5 : Below w.heap.size w w5 := since hb0 bg
         have BXw5 := Lib.hid (Bx.later BX3.out (since hb0 bg))
         clear hb0
         go_wp2_with fail
         go_ret
         exact ⟨ret_bool HE.out.symm, bg⟩

theorem okW_zero (l : List Pt) : partsB (fun _ _ => false) none l = okW 0 l := by rw [okW]; cases l <;> rfl
theorem okL_zero (l : List Nd) : l.all (fun _ => false) = okL 0 l := by rw [okL]; cases l <;> rfl
/-- word and list, at every level. -/
theorem levels : ∀ (n : Nat) (m : Int), m.toNat = n → m ≤ 9223372036854775807 → WordAt m (okW n) ∧ ListAt m (okL n)
 | 0, m, hn, _ => by
   have e1 : okW 0 = partsB (fun _ _ => false) none := funext fun l => (okW_zero l).symm
   have e2 : okL 0 = fun l => l.all (fun _ => false) := funext fun l => (okL_zero l).symm
   rw [e1, e2]
   exact ⟨word_any m _ fun W q x d c pv _ hp _ => part_no m (by omega) q x W d c pv hp, list_any m _ fun W x d c _ hp => node_no m (by omega) x W d c hp⟩
 | n + 1, m, hn, hm => by
   obtain ⟨h1, h2⟩ := levels n (m - 1) (by omega) (by omega)
   have e1 : okW (n + 1) = partsB (partB (okW n) (okL n)) none := funext fun l => by rw [okW]
   have e2 : okL (n + 1) = fun l => l.all (nodeB (okW n) (okL n)) := funext fun l => by rw [okL]
   rw [e1, e2]
   exact ⟨word_any m _ fun W q x d c pv hv hp hq => part_yes _ _ m (by omega) hm h1 h2 q x W d c pv hv hp hq, list_any m _ fun W x d c hv hp => node_yes _ _ m (by omega) hm h1 h2 x W d c hv hp⟩

theorem right_any (l : List Nd) (v : Value) (m : Int) (w : World) (d : Nat) (hm : m ≤ 9223372036854775807) (hv : Held w) (hl : NdsIn w w.heap.size d l v) :
 Calls Tryz.prog 10 #[v, .int .i64 m] w fun e w' => e = .returned (.bool (okL m.toNat l)) ∧ Below w.heap.size w w' := by
 have CL := Lib.hid ((levels m.toNat m rfl hm).2 w l v d true hv hl)
 rw [Bool.true_or, Bool.and_true] at CL
 obtain ⟨a, cap, rfl, _⟩ := hl.shape
 clear hl
 go_enter Tryz.func10, Tryz.ntmps10
 go_wp2_with fail
 refine CL.out.mono ?_
 rintro e w1 ⟨rfl, hb⟩
 have HB := Lib.hid hb
 clear hb
 go_wp2
 go_ret
 exact ⟨rfl, HB.out⟩
end Go.Proofs.YtnackmnoldkihaaGreatDoor
