/-
  The walk of the copy of a command.
-/
import Derived.Test.YtnackmnoldkihaaGreatDoorW24
set_option linter.unusedVariables false
set_option linter.unusedSimpArgs false
namespace Go.Proofs.YtnackmnoldkihaaGreatDoor
open Go.RowKit

theorem blk_after (X : World) (cs : Array Value) (t : TypeId) {w1 : World} (h : Below (World.drew (X.alloc (.cells cs t))).heap.size (World.drew (X.alloc (.cells cs t))) w1) : Blk w1 X.heap.size t cs :=
 Blk.below (w := World.drew (X.alloc (.cells cs t))) (B := (World.drew (X.alloc (.cells cs t))).heap.size) (Blk.new X t cs) h (by simp)
set_option maxHeartbeats 40000000 in
set_option maxRecDepth 100000 in
theorem node_copy (d : Nat) (hWC : WordC d) (hNC : NodesC d) : NodeC d := by
 intro w x c hc
 have HC := Lib.hid hc
 obtain ⟨a1, c1, a2, c2, a3, c3, a4, c4, a5, c5, rfl, hxz, ⟨hn1, hn2, hn3, hn4, hn5⟩, hA, hW, hR, hLs, hM⟩ := hc.open
 have HWS := Lib.hid (words_copy d hWC)
 have HRC := Lib.hid (redir_copy d hWC)
 have HWC := Lib.hid hWC
 have HNC := Lib.hid hNC
 have HXZ := Lib.hid hxz
 obtain ⟨n1, hl1⟩ : ∃ n, x.assigns.length = n := ⟨_, rfl⟩
 obtain ⟨n2, hl2⟩ : ∃ n, x.words.length = n := ⟨_, rfl⟩
 obtain ⟨n3, hl3⟩ : ∃ n, x.redirs.length = n := ⟨_, rfl⟩
 obtain ⟨n4, hl4⟩ : ∃ n, x.lists.length = n := ⟨_, rfl⟩
 obtain ⟨n5, hl5⟩ : ∃ n, x.arms.length = n := ⟨_, rfl⟩
 rw [hl1] at hn1 hA ⊢
 rw [hl2] at hn2 hW ⊢
 rw [hl3] at hn3 hR ⊢
 rw [hl4] at hn4 hLs ⊢
 rw [hl5] at hn5 hM ⊢
 obtain ⟨pc, hpc⟩ : ∃ pc : Array Value, pc = #[.int .i64 x.kind, .string x.name, .slice a1 n1 c1, .slice a2 n2 c2, .slice a3 n3 c3, .slice a4 n4 c4, .slice a5 n5 c5] := ⟨_, rfl⟩
 have HPC := Lib.hid hpc
 have HA := Lib.hid hA
 have HW := Lib.hid hW
 have HR := Lib.hid hR
 have HLS := Lib.hid hLs
 have HM := Lib.hid hM
 have N1 := Lib.hid hl1
 have N2 := Lib.hid hl2
 have N3 := Lib.hid hl3
 have N4 := Lib.hid hl4
 have N5 := Lib.hid hl5
 clear hc hWC hNC hxz hl1 hl2 hl3 hl4 hl5 hA hW hR hLs hM hpc
 obtain ⟨X, hX⟩ : ∃ X, X = (w.alloc (.cells #[.int .i64 x.kind, .string x.name, .slice a1 n1 c1, .slice a2 n2 c2, .slice a3 n3 c3, .slice a4 n4 c4, .slice a5 n5 c5] 38)).alloc (.cells #[.int .i64 0, .string ⟨#[]⟩, .slice none 0 0, .slice none 0 0, .slice none 0 0, .slice none 0 0, .slice none 0 0] 64) := ⟨_, rfl⟩
 have hBX : Below w.heap.size w X := by rw [hX]; exact bg
 have hzX : X.heap.size = w.heap.size + 1 + 1 := by rw [hX]; simp
 have x0 : X.cell? ⟨w.heap.size, 0, none⟩ = some (.int .i64 x.kind) := by rw [hX]; simp
 have x1 : X.cell? ⟨w.heap.size, 1, none⟩ = some (.string x.name) := by rw [hX]; simp
 have x3 : X.cell? ⟨w.heap.size, 3, none⟩ = some (.slice a2 n2 c2) := by rw [hX]; simp
 have hgX : w.heap.size < X.heap.size := by omega
 have hgX1 : w.heap.size + 1 < X.heap.size := by omega
 have hneX : X.heap.size ≠ w.heap.size := by omega
 have HZX := Lib.hid hzX
 clear hzX
 have HY0 : Hid (Blk X w.heap.size 38 pc) := Lib.hid (by rw [hX, HPC.out]; exact (Blk.at rfl).alloc _)
 have HY1 : Hid (Blk X (w.heap.size + 1) 64 #[.int .i64 0, .string ⟨#[]⟩, .slice none 0 0, .slice none 0 0, .slice none 0 0, .slice none 0 0, .slice none 0 0]) := Lib.hid (by rw [hX]; exact Blk.at (by simp))
 have HX := Lib.hid hX
 have HZX0 := Lib.hid (show X.heap.size = w.heap.size + 1 + 1 by rw [hX]; simp)
 have CWS : Hid (∀ W, Below X.heap.size X W → Calls Tryz.prog 52 #[.slice a2 n2 c2] W fun e W' => ∃ a c, e = .returned (.slice a n2 c) ∧ (∀ W2 : World, W'.heap.size ≤ W2.heap.size → ∀ g, (∀ b o, b < W'.heap.size → b ≠ g → W2.cell? ⟨b, o, none⟩ = W'.cell? ⟨b, o, none⟩) → (g < W.heap.size ∨ W'.heap.size ≤ g) → WdsIn (onlyW W2 (freshB (w.heap.size + 2) [g] none)) W2.heap.size d x.words (.slice a n2 c)) ∧ Below X.heap.size X W' ∧ Below W.heap.size W W') :=
  Lib.hid fun W hW => (HWS.out W _ _ (WdsIn.keep HW.out fun size n v xs hs => (hs.below (hBX.trans (hW.mono hBX.size))).mono (Nat.le_trans hBX.size hW.size))).mono fun e W' ⟨a, c, h1, h2, h3⟩ => by
   rw [N2.out] at h1 h2
   exact ⟨a, c, h1, fun W2 hz g hk hg => Kept.wds ⟨hz, fun b k1 k2 k3 k4 => by
    have hbg : b ≠ g := by omega
    exact ⟨⟨by have := hW.size; have := HZX0.out; omega, by simpa using hbg, by simp⟩, fun o => hk b o k1 hbg⟩⟩ h2, hW.trans (h3.mono hW.size), h3⟩
 clear hX
 go_enter Tryz.func38, Tryz.ntmps38
 go_upto_region 1 with fail
 rw [← HX.out]
 go_cut [3] (fun s3 W => ∃ gx a c, s3 = .pointer (some ⟨gx, 0, none⟩) ∧ Pushed w pc gx x d 1 98 2 (fun w B => AsC w B d) x.assigns 0 (.slice none 0 0) (.slice none 0 0) (.slice a n2 c) (.slice none 0 0) (.slice none 0 0) (.slice none 0 0) W)
 case first =>
  go_region_held3 (fun w' => w'.cell? ⟨w.heap.size, 0, none⟩ = some (.int .i64 x.kind) ∧ w'.cell? ⟨w.heap.size, 1, none⟩ = some (.string x.name) ∧ w'.cell? ⟨w.heap.size, 3, none⟩ = some (.slice a2 n2 c2)) (go_keep)
   ((go_at_call 52; with_reducible refine (CWS.out _ bg).mono ?_; rintro e w1 ⟨aw, cw, rfl, hp1, hb1, hc1⟩; have HP1 := Lib.hid hp1; clear hp1; have hne1 : w1.heap.size ≠ w.heap.size := (by have := hb1.size; omega); have d0 := (hb1.cell hgX).trans x0; have d1 := (hb1.cell hgX).trans x1; have d3 := (hb1.cell hgX).trans x3; (first | (have HNO : Below X.drew.heap.size X.drew w1 := hc1; clear HNO) | (have HBB := Lib.hid (blk_after _ _ _ hc1); have k0 := HBB.out.cell 0; have k1 := HBB.out.cell 1; have k2 := HBB.out.cell 2; have k3 := HBB.out.cell 3; have k4 := HBB.out.cell 4; have k5 := HBB.out.cell 5; have k6 := HBB.out.cell 6; have kf0 := HBB.out.free 0; have kf1 := HBB.out.free 1; have kf2 := HBB.out.free 2; have kf3 := HBB.out.free 3; have kf4 := HBB.out.free 4; have kf5 := HBB.out.free 5; have kf6 := HBB.out.free 6; simp at k0 k1 k2 k3 k4 k5 k6 kf0 kf1 kf2 kf3 kf4 kf5 kf6))))
  · clear d0 d1 d3 hne1
    have hz1 := hb1.size
    have HB1 := Lib.hid hb1
    go_wp2_with fail
    go_meet
    · have hbV : Below X.heap.size X (w1.alloc (.cells #[.int .i64 x.kind, .string x.name, .slice none 0 0, .slice aw n2 cw, .slice none 0 0, .slice none 0 0, .slice none 0 0] 64)) := HB1.out.alloc hz1 _
      refine ⟨_, aw, cw, rfl, ⟨HY0.out.below hbV hgX, HY1.out.below hbV hgX1, Blk.new _ _ _, by omega, hBX.trans (hbV.mono hBX.size)⟩, Copied.start _ _ _ _ _ _ _, fun b e => by simp [Value.ownBlock] at e, HP1.out _ (by simp) _ (fun b o hb _ => (Below.alloc (Below.refl w1.heap.size w1) (Nat.le_refl _) _).cell (p := ⟨b, o, none⟩) hb) (.inr (Nat.le_refl _)), fun e => absurd e (by omega), fun e => absurd e (by omega), fun e => absurd e (by omega)⟩
  · clear d0 d1 d3 hne1 k0 k1 k2 k3 k4 k5 k6 kf0 kf1 kf2 kf3 kf4 kf5 kf6
    have HB1 := Lib.hid hb1
    have HC1 := Lib.hid hc1
    clear hb1 hc1
    go_wp2_with fail
    go_meet
    · have hbV : Below X.heap.size X (((((((w1.setCell ⟨X.heap.size, 0, none⟩ (.int .i64 x.kind)).setCell ⟨X.heap.size, 1, none⟩ (.string x.name)).setCell ⟨X.heap.size, 2, none⟩ (.slice none 0 0)).setCell ⟨X.heap.size, 3, none⟩ (.slice aw n2 cw)).setCell ⟨X.heap.size, 4, none⟩ (.slice none 0 0)).setCell ⟨X.heap.size, 5, none⟩ (.slice none 0 0)).setCell ⟨X.heap.size, 6, none⟩ (.slice none 0 0)) :=
       ((((((HB1.out.setCell (by simp) _).setCell (by simp) _).setCell (by simp) _).setCell (by simp) _).setCell (by simp) _).setCell (by simp) _).setCell (by simp) _
      refine ⟨_, aw, cw, rfl, ⟨HY0.out.below hbV hgX, HY1.out.below hbV hgX1, ((((((HBB.out.put 0 _).put 1 _).put 2 _).put 3 _).put 4 _).put 5 _).put 6 _, by omega, hBX.trans (hbV.mono hBX.size)⟩, Copied.start _ _ _ _ _ _ _, fun b e => by simp [Value.ownBlock] at e, HP1.out _ (by simp) _ (fun b o hb hne => ?_) (.inl (by simp)), fun e => absurd e (by omega), fun e => absurd e (by omega), fun e => absurd e (by omega)⟩
      repeat rw [World.cell?_setCell_other _ _ _ _ (fun e => by injection e with e _; exact hne e.symm)]
 case rest =>
  obtain ⟨gx, aw, cw, rfl, hps⟩ := hcut
  have HPS := Lib.hid hps
  clear hps x0 x1 x3 hgX hgX1 hneX hBX
  have HPR : Hid (Blk wc w.heap.size 38 #[.int .i64 x.kind, .string x.name, .slice a1 n1 c1, .slice a2 n2 c2, .slice a3 n3 c3, .slice a4 n4 c4, .slice a5 n5 c5]) := Lib.hid (by rw [← HPC.out]; exact HPS.out.st.par)
  have hB := HPS.out.st.bel
  have hBz := hB.size
  obtain ⟨p0, p1, p2, p3, p4, p5, p6, pl⟩ := HPR.out.box7
  go_wp2_with fail
  go_loopw [23] (fun i W => ∃ (k : Nat) (sa : Option Addr) (sc : Nat), k ≤ n1 ∧ i = .int .i64 k ∧ Pushed w pc gx x d 1 98 2 (fun w B => AsC w B d) x.assigns k (.slice sa k sc) (.slice sa k sc) (.slice aw n2 cw) (.slice none 0 0) (.slice none 0 0) (.slice none 0 0) W) (fun i _ => n1 - (intOf i).toNat)
  case atStart => exact ⟨0, none, 0, Nat.zero_le _, rfl, HPS.out⟩
  case round =>
   clear p0 p1 p2 p3 p4 p5 p6 pl hB hBz
   obtain ⟨k, sa, sc, hk, rfl, hps⟩ := hrel
   have HPS := Lib.hid hps
   clear hps
   have HPR : Hid (Blk wr w.heap.size 38 #[.int .i64 x.kind, .string x.name, .slice a1 n1 c1, .slice a2 n2 c2, .slice a3 n3 c3, .slice a4 n4 c4, .slice a5 n5 c5]) := Lib.hid (by rw [← HPC.out]; exact HPS.out.st.par)
   have hB := HPS.out.st.bel
   have hBz := hB.size
   obtain ⟨p0, p1, p2, p3, p4, p5, p6, pl⟩ := HPR.out.box7
   by_cases hlt : k < n1
   · obtain ⟨y, hy⟩ : ∃ y, x.assigns[k]? = .some y := ⟨_, List.getElem?_eq_getElem (by rw [N1.out]; exact hlt)⟩
     have HYK := Lib.hid hy
     obtain ⟨b, o, c, hi, hbB, hce, ⟨hnz, yv, rfl, hyp⟩, _⟩ := HA.out.at 33 94 Tryz.underlying33 (by kernel_rfl) hy
     obtain ⟨a6, c6, rfl, _⟩ := hyp.shape
     have HNZ := Lib.hid hnz
     have HYP := Lib.hid hyp
     have e0 := (hB.cell hbB).trans (hce 0 _ rfl)
     have e1 := (hB.cell hbB).trans (hce 1 _ rfl)
     have hbB' := Nat.lt_of_lt_of_le hbB hB.size
     rw [Nat.add_zero] at e0
     obtain ⟨cs, q1, q2, q3, q4⟩ := HPS.out.cp
     have Q1 := Lib.hid q1
     have Q2 := Lib.hid q2
     have Q3 := Lib.hid q3
     have Q4 := Lib.hid q4
     clear q1 q2 q3 q4
     clear hy hce hyp hnz
     go_upto_region 5 with fail
     obtain ⟨Y, hY⟩ : ∃ Y, Y = wr.alloc (.cells #[.string y.name, .slice a6 y.word.length c6] 94) := ⟨_, rfl⟩
     have y0 : Y.cell? ⟨wr.heap.size, 0, none⟩ = some (.string y.name) := by rw [hY]; simp
     have y1 : Y.cell? ⟨wr.heap.size, 1, none⟩ = some (.slice a6 y.word.length c6) := by rw [hY]; simp
     have HBY : Hid (Below wr.heap.size wr Y) := Lib.hid (by rw [hY]; exact bg)
     have hgY : wr.heap.size < Y.heap.size := by rw [hY]; simp
     have hgxr := HPS.out.st.box.lt
     have hgt := HPS.out.st.gt
     have hgxY : gx < Y.heap.size := by omega
     have HBOX := Lib.hid (HPS.out.st.box.below HBY.out hgxr)
     have bq := HBOX.out.cell 2
     have bf := HBOX.out.free 2
     simp at bq
     rw [← hY]
     clear hY
     have hBY : Below w.heap.size w Y := hB.trans (HBY.out.mono hBz)
     have HRW : Hid (∀ b, (Value.slice sa k sc).ownBlock = some b → b < Y.heap.size) := Lib.hid fun b e => by
      have := (World.ownsRow.lt Q3.out _ e).2
      omega
     have CW : Hid (∀ W, Below Y.heap.size Y W → Calls Tryz.prog 14 #[.slice a6 y.word.length c6] W fun e W' => ∃ a c, e = .returned (.slice a y.word.length c) ∧ (∀ W2, Below W'.heap.size W' W2 → ∀ g, (∀ b, g = some b → b < Y.heap.size) → PtsIn (onlyW W2 (freshB (w.heap.size + 2) [gx] g)) W2.heap.size d y.word (.slice a y.word.length c)) ∧ Below Y.heap.size Y W' ∧ Below W.heap.size W W') :=
      Lib.hid fun W hW => (HWC.out W _ _ ((HYP.out.below (hBY.trans (hW.mono hBY.size))).mono (Nat.le_trans hBY.size hW.size))).mono fun e W' ⟨a, c, h1, h2, h3⟩ =>
       ⟨a, c, h1, fun W2 hb g hg => later_pts h2 W2 hb _ [gx] g (by have := hW.size; omega) (by have := hW.size; simp; omega) fun b e => Nat.lt_of_lt_of_le (hg b e) hW.size, hW.trans (h3.mono hW.size), h3⟩
     clear e0 e1 hi p0 p1 p2 p3 p4 p5 p6 pl
     go_region_law (first
      | (go_simp; go_at_call 14; with_reducible refine (CW.out _ bg).mono ?_; rintro e w1 ⟨av, cv, rfl, hq1, hb1, hc1⟩; have d0 := (hb1.cell hgY).trans y0; have d1 := (hb1.cell hgY).trans y1;
         have hs1 := hb1.size; have hgx1 : gx < w1.heap.size := Nat.lt_of_lt_of_le hgxY hs1; have hz1 := hc1.size; (try simp only [World.size_alloc, World.size_setCell, World.size_drew, size_drewN] at hz1); have hr1 : Below wr.heap.size wr w1 := HBY.out.trans (hb1.mono HBY.out.size); have HQ1 := Lib.hid hq1; clear hq1; have gq1 := (hb1.cell (p := ⟨gx, 2, none⟩) hgxY).trans bq; have gf1 := (hb1.frozen (p := ⟨gx, 2, none⟩) hgxY).trans bf
             )
      |
       (refine step_append_sl rfl _ _ 58 rfl (w.heap.size + 2) 98 Tryz.underlying58 infoA14 rfl (by decide) (v := .slice sa k sc) (n := k) (xs := cs.flatten) rfl (own_below Q3.out bg) (m := 1) (news := [.string y.name, .slice av y.word.length cv]) rfl (sl_made_at _ #[.string y.name, .slice av y.word.length cv] _ 1 2 rfl (by unfold maxLen; omega) (by simp)) (by omega) (by intro u hu; simp at hu; rcases hu with rfl | rfl <;> rfl) (by omega) (by simp; omega) ?_; intro g1 cap1 w5 hown hgrow hlie hglt; have HP5 := Lib.hid (HPS.out.push (keeps_as d) hgrow hlie hown bg Q1.out Q2.out Q4.out HYK.out rfl ⟨HNZ.out, _, rfl, HQ1.out _ bg _ HRW.out⟩); have hq5 := HP5.out.st.box.cell 2; have hf5 := HP5.out.st.box.free 2; simp at hq5; clear hown hgrow hlie hglt)
            )
     all_goals
      go_wp2_with fail
      go_roundw
      case rel => exact ⟨k + 1, _, _, by omega, by go_num, HP5.out.put (keeps_as d) 2 _ rfl fun W h => ⟨h.1, fun e => absurd e (by omega), fun e => absurd e (by omega), fun e => absurd e (by omega)⟩⟩
      case measure => simp [intOf]; omega
   · obtain rfl : n1 = k := by omega
     have HD := Lib.hid (Pushed.done (l := x.assigns) (by rw [N1.out]; exact HPS.out) (keeps_as d) (by rw [N1.out]; exact hn1))
     obtain ⟨va, hva⟩ : ∃ v, v = Value.slice sa n1 sc := ⟨_, rfl⟩
     have HVa : Hid (∃ a c, va = Value.slice a n1 c) := Lib.hid ⟨_, _, hva⟩
     have HPS2 : Hid (Pushed w pc gx x d 2 100 4 (fun w B => RdC w B d) x.redirs 0 (.slice none 0 0) (.slice sa n1 sc) (.slice aw n2 cw) (.slice none 0 0) (.slice none 0 0) (.slice none 0 0) wr) :=
      Lib.hid ⟨HPS.out.st, Copied.start _ _ _ _ _ _ _, fun b e => by simp [Value.ownBlock] at e, HD.out.2.1, fun _ => HD.out.1, fun e => absurd e (by omega), fun e => absurd e (by omega)⟩
     clear HPS HD
     rw [← hva] at HPS2
     clear hva
     have HPS := HPS2
     clear HPS2
     go_wp2_with fail
     clear p0 p1 p2 p3 p4 p5 p6 pl hB hBz
     go_loopw [42] (fun i W => ∃ (k2 : Nat) (sa2 : Option Addr) (sc2 : Nat), k2 ≤ n3 ∧ i = .int .i64 k2 ∧ Pushed w pc gx x d 2 100 4 (fun w B => RdC w B d) x.redirs k2 (.slice sa2 k2 sc2) va (.slice aw n2 cw) (.slice sa2 k2 sc2) (.slice none 0 0) (.slice none 0 0) W) (fun i _ => n3 - (intOf i).toNat)
     case atStart => exact ⟨0, none, 0, Nat.zero_le _, rfl, HPS.out⟩
     case round =>
      obtain ⟨k, sa, sc, hk, rfl, hps⟩ := hrel
      have HPS := Lib.hid hps
      clear hps
      have HPR : Hid (Blk wr w.heap.size 38 #[.int .i64 x.kind, .string x.name, .slice a1 n1 c1, .slice a2 n2 c2, .slice a3 n3 c3, .slice a4 n4 c4, .slice a5 n5 c5]) := Lib.hid (by rw [← HPC.out]; exact HPS.out.st.par)
      have hB := HPS.out.st.bel
      have hBz := hB.size
      obtain ⟨p0, p1, p2, p3, p4, p5, p6, pl⟩ := HPR.out.box7
      by_cases hlt : k < n3
      · obtain ⟨y, hy⟩ : ∃ y, x.redirs[k]? = .some y := ⟨_, List.getElem?_eq_getElem (by rw [N3.out]; exact hlt)⟩
        have HYK := Lib.hid hy
        obtain ⟨b, o, c, hi, hbB, hce, hyp, _⟩ := HR.out.at 32 31 Tryz.underlying32 (by kernel_rfl) hy
        have HYP := Lib.hid hyp
        obtain ⟨_, _, _, yv, rfl, hyw⟩ := hyp
        obtain ⟨a6, c6, rfl, _⟩ := hyw.shape
        have e0 := (hB.cell hbB).trans (hce 0 _ rfl)
        have e1 := (hB.cell hbB).trans (hce 1 _ rfl)
        have e2 := (hB.cell hbB).trans (hce 2 _ rfl)
        have e3 := (hB.cell hbB).trans (hce 3 _ rfl)
        have hbB' := Nat.lt_of_lt_of_le hbB hB.size
        rw [Nat.add_zero] at e0
        obtain ⟨cs, q1, q2, q3, q4⟩ := HPS.out.cp
        have Q1 := Lib.hid q1
        have Q2 := Lib.hid q2
        have Q3 := Lib.hid q3
        have Q4 := Lib.hid q4
        clear q1 q2 q3 q4
        clear hy hce hyw
        go_upto_region 10 with fail
        obtain ⟨Y, hY⟩ : ∃ Y, Y = wr.alloc (.cells #[.int .i64 y.fd, .string y.op, .string y.tag, .slice a6 y.word.length c6] 31) := ⟨_, rfl⟩
        have y0 : Y.cell? ⟨wr.heap.size, 0, none⟩ = some (.int .i64 y.fd) := by rw [hY]; simp
        have y1 : Y.cell? ⟨wr.heap.size, 1, none⟩ = some (.string y.op) := by rw [hY]; simp
        have y2 : Y.cell? ⟨wr.heap.size, 2, none⟩ = some (.string y.tag) := by rw [hY]; simp
        have y3 : Y.cell? ⟨wr.heap.size, 3, none⟩ = some (.slice a6 y.word.length c6) := by rw [hY]; simp
        have HBY : Hid (Below wr.heap.size wr Y) := Lib.hid (by rw [hY]; exact bg)
        have hgY : wr.heap.size < Y.heap.size := by rw [hY]; simp
        have hgxr := HPS.out.st.box.lt
        have hgt := HPS.out.st.gt
        have hgxY : gx < Y.heap.size := by omega
        have HBOX := Lib.hid (HPS.out.st.box.below HBY.out hgxr)
        have bq := HBOX.out.cell 4
        have bf := HBOX.out.free 4
        simp at bq
        rw [← hY]
        clear hY
        have hBY : Below w.heap.size w Y := hB.trans (HBY.out.mono hBz)
        have HRW : Hid (∀ b, (Value.slice sa k sc).ownBlock = some b → b < Y.heap.size) := Lib.hid fun b e => by
         have := (World.ownsRow.lt Q3.out _ e).2
         omega
        have CW : Hid (∀ W, Below Y.heap.size Y W → Calls Tryz.prog 53 #[.agg #[.int .i64 y.fd, .string y.op, .string y.tag, .slice a6 y.word.length c6]] W fun e W' => ∃ a c, e = .returned (.agg #[.int .i64 y.fd, .string y.op, .string y.tag, .slice a y.word.length c]) ∧ (∀ W2, Below W'.heap.size W' W2 → ∀ g, (∀ b, g = some b → b < Y.heap.size) → RdC (onlyW W2 (freshB (w.heap.size + 2) [gx] g)) W2.heap.size d y [.int .i64 y.fd, .string y.op, .string y.tag, .slice a y.word.length c]) ∧ Below Y.heap.size Y W' ∧ Below W.heap.size W W') :=
         Lib.hid fun W hW => (HRC.out W y _ (HYP.out.keep fun size n v xs hs => (hs.below (hBY.trans (hW.mono hBY.size))).mono (Nat.le_trans hBY.size hW.size))).mono fun e W' ⟨a, c, h1, h2, h3⟩ =>
          ⟨a, c, h1, fun W2 hb g hg => later_rdc h2 W2 hb _ [gx] g (by have := hW.size; omega) (by have := hW.size; simp; omega) fun b e => Nat.lt_of_lt_of_le (hg b e) hW.size, hW.trans (h3.mono hW.size), h3⟩
        clear e0 e1 e2 e3 hi p0 p1 p2 p3 p4 p5 p6 pl
        go_region_law (first
         | (go_simp; go_at_call 53; with_reducible refine (CW.out _ bg).mono ?_; rintro e w1 ⟨av, cv, rfl, hq1, hb1, hc1⟩; 
            have hs1 := hb1.size; have hgx1 : gx < w1.heap.size := Nat.lt_of_lt_of_le hgxY hs1; have hz1 := hc1.size; (try simp only [World.size_alloc, World.size_setCell, World.size_drew, size_drewN] at hz1); have hr1 : Below wr.heap.size wr w1 := HBY.out.trans (hb1.mono HBY.out.size); have HQ1 := Lib.hid hq1; clear hq1; have gq1 := (hb1.cell (p := ⟨gx, 4, none⟩) hgxY).trans bq; have gf1 := (hb1.frozen (p := ⟨gx, 4, none⟩) hgxY).trans bf
                 )
         |
          (refine step_append_sl rfl _ _ 60 rfl (w.heap.size + 2) 100 Tryz.underlying60 infoR14 rfl (by decide) (v := .slice sa k sc) (n := k) (xs := cs.flatten) rfl (own_below Q3.out bg) (m := 1) (news := [.int .i64 y.fd, .string y.op, .string y.tag, .slice av y.word.length cv]) rfl (sl_made_at _ #[.int .i64 y.fd, .string y.op, .string y.tag, .slice av y.word.length cv] _ 1 4 rfl (by unfold maxLen; omega) (by simp)) (by omega) (by intro u hu; simp at hu; rcases hu with rfl | rfl | rfl | rfl <;> rfl) (by omega) (by simp; omega) ?_; intro g1 cap1 w5 hown hgrow hlie hglt; have HP5 := Lib.hid (HPS.out.push (keeps_rd d) hgrow hlie hown bg Q1.out Q2.out Q4.out HYK.out rfl (HQ1.out _ bg _ HRW.out)); have hq5 := HP5.out.st.box.cell 4; have hf5 := HP5.out.st.box.free 4; simp at hq5; clear hown hgrow hlie hglt)
                )
        all_goals
         go_wp2_with fail
         go_roundw
         case rel => exact ⟨k + 1, _, _, by omega, by go_num, HP5.out.put (keeps_rd d) 4 _ rfl fun W h => ⟨h.1, h.2.1, fun e => absurd e (by omega), fun e => absurd e (by omega)⟩⟩
         case measure => simp [intOf]; omega
      · obtain rfl : n3 = k := by omega
        have HD := Lib.hid (Pushed.done (l := x.redirs) (by rw [N3.out]; exact HPS.out) (keeps_rd d) (by rw [N3.out]; exact hn3))
        obtain ⟨vr, hvr⟩ : ∃ v, v = Value.slice sa n3 sc := ⟨_, rfl⟩
        have HVr : Hid (∃ a c, vr = Value.slice a n3 c) := Lib.hid ⟨_, _, hvr⟩
        have HPS2 : Hid (Pushed w pc gx x d 3 25 1 (fun w B (y : List Nd) c => ∃ v, c = [v] ∧ NdsIn w B d y v) x.lists 0 (.slice none 0 0) va (.slice aw n2 cw) (.slice sa n3 sc) (.slice none 0 0) (.slice none 0 0) wr) :=
         Lib.hid ⟨HPS.out.st, Copied.start _ _ _ _ _ _ _, fun b e => by simp [Value.ownBlock] at e, HD.out.2.1, fun _ => HD.out.2.2.1 (by omega), fun _ => HD.out.1, fun e => absurd e (by omega)⟩
        clear HPS HD
        rw [← hvr] at HPS2
        clear hvr
        have HPS := HPS2
        clear HPS2
        go_wp2_with fail
        clear p0 p1 p2 p3 p4 p5 p6 pl hB hBz
        go_loopw [57] (fun i W => ∃ (k2 : Nat) (sa2 : Option Addr) (sc2 : Nat), k2 ≤ n4 ∧ i = .int .i64 k2 ∧ Pushed w pc gx x d 3 25 1 (fun w B (y : List Nd) c => ∃ v, c = [v] ∧ NdsIn w B d y v) x.lists k2 (.slice sa2 k2 sc2) va (.slice aw n2 cw) vr (.slice sa2 k2 sc2) (.slice none 0 0) W) (fun i _ => n4 - (intOf i).toNat)
        case atStart => exact ⟨0, none, 0, Nat.zero_le _, rfl, HPS.out⟩
        case round =>
         obtain ⟨k, sa, sc, hk, rfl, hps⟩ := hrel
         have HPS := Lib.hid hps
         clear hps
         have HPR : Hid (Blk wr w.heap.size 38 #[.int .i64 x.kind, .string x.name, .slice a1 n1 c1, .slice a2 n2 c2, .slice a3 n3 c3, .slice a4 n4 c4, .slice a5 n5 c5]) := Lib.hid (by rw [← HPC.out]; exact HPS.out.st.par)
         have hB := HPS.out.st.bel
         have hBz := hB.size
         obtain ⟨p0, p1, p2, p3, p4, p5, p6, pl⟩ := HPR.out.box7
         by_cases hlt : k < n4
         · obtain ⟨y, hy⟩ : ∃ y, x.lists[k]? = .some y := ⟨_, List.getElem?_eq_getElem (by rw [N4.out]; exact hlt)⟩
           have HYK := Lib.hid hy
           obtain ⟨b, o, c, hi, hbB, hce, ⟨yv, rfl, hyp⟩, _⟩ := HLS.out.at 35 22 Tryz.underlying35 (by kernel_rfl) hy
           have HYP := Lib.hid hyp
           obtain ⟨a6, c6, rfl, _⟩ := hyp.shape
           have e0 := (hB.cell hbB).trans (hce 0 _ rfl)
           have hbB' := Nat.lt_of_lt_of_le hbB hB.size
           rw [Nat.add_zero] at e0
           obtain ⟨cs, q1, q2, q3, q4⟩ := HPS.out.cp
           have Q1 := Lib.hid q1
           have Q2 := Lib.hid q2
           have Q3 := Lib.hid q3
           have Q4 := Lib.hid q4
           clear q1 q2 q3 q4
           clear hy hce hyp
           go_upto_region 15 with fail
           obtain ⟨Y, hY⟩ : ∃ Y, Y = wr := ⟨_, rfl⟩
           have HBY : Hid (Below wr.heap.size wr Y) := Lib.hid (by rw [hY]; exact Below.refl _ _)
           have hwY := HBY.out.size
           have hgxY : gx < Y.heap.size := by rw [hY]; exact HPS.out.st.box.lt
           have hgt := HPS.out.st.gt
           have HBOX := Lib.hid (HPS.out.st.box.below HBY.out HPS.out.st.box.lt)
           have bq := HBOX.out.cell 5
           have bf := HBOX.out.free 5
           simp at bq
           have HRW : Hid (∀ b, (Value.slice sa k sc).ownBlock = some b → b < Y.heap.size) := Lib.hid fun b e => by
            rw [hY]
            exact (World.ownsRow.lt Q3.out _ e).2
           rw [← hY]
           clear hY
           have hBY : Below w.heap.size w Y := hB.trans (HBY.out.mono hBz)
           have CW : Hid (∀ W, Below Y.heap.size Y W → Calls Tryz.prog 9 #[.slice a6 y.length c6] W fun e W' => ∃ a c, e = .returned (.slice a y.length c) ∧ (∀ W2, Below W'.heap.size W' W2 → ∀ g, (∀ b, g = some b → b < Y.heap.size) → NdsIn (onlyW W2 (freshB (w.heap.size + 2) [gx] g)) W2.heap.size d y (.slice a y.length c)) ∧ Below Y.heap.size Y W' ∧ Below W.heap.size W W') :=
            Lib.hid fun W hW => (HNC.out W _ _ ((HYP.out.below (hBY.trans (hW.mono hBY.size))).mono (Nat.le_trans hBY.size hW.size))).mono fun e W' ⟨a, c, h1, h2, h3⟩ =>
             ⟨a, c, h1, fun W2 hb g hg => later_nds h2 W2 hb _ [gx] g (by have := hW.size; omega) (by have := hW.size; simp; omega) fun b e => Nat.lt_of_lt_of_le (hg b e) hW.size, hW.trans (h3.mono hW.size), h3⟩
           clear e0 hi p0 p1 p2 p3 p4 p5 p6 pl
           go_region_law (first
            | (go_simp; go_at_call 9; with_reducible refine (CW.out _ bg).mono ?_; rintro e w1 ⟨av, cv, rfl, hq1, hb1, hc1⟩; 
               have hs1 := hb1.size; have hgx1 : gx < w1.heap.size := Nat.lt_of_lt_of_le hgxY hs1; have hz1 := hc1.size; (try simp only [World.size_alloc, World.size_setCell, World.size_drew, size_drewN] at hz1); have hr1 : Below wr.heap.size wr w1 := HBY.out.trans (hb1.mono HBY.out.size); have HQ1 := Lib.hid hq1; clear hq1; have gq1 := (hb1.cell (p := ⟨gx, 5, none⟩) hgxY).trans bq; have gf1 := (hb1.frozen (p := ⟨gx, 5, none⟩) hgxY).trans bf
                     )
            |
             (refine step_append_sl rfl _ _ 61 rfl (w.heap.size + 2) 25 Tryz.underlying61 infoNs14 rfl (by decide) (v := .slice sa k sc) (n := k) (xs := cs.flatten) rfl (own_below Q3.out bg) (m := 1) (news := [.slice av y.length cv]) rfl (sl_made_at _ #[.slice av y.length cv] _ 1 1 rfl (by unfold maxLen; omega) (by simp)) (by omega) (by intro u hu; simp at hu; subst hu <;> rfl) (by omega) (by simp; omega) ?_; intro g1 cap1 w5 hown hgrow hlie hglt; have HP5 := Lib.hid (HPS.out.push (keeps_ls d) hgrow hlie hown bg Q1.out Q2.out Q4.out HYK.out rfl ⟨_, rfl, HQ1.out _ bg _ HRW.out⟩); have hq5 := HP5.out.st.box.cell 5; have hf5 := HP5.out.st.box.free 5; simp at hq5; clear hown hgrow hlie hglt)
                    )
           all_goals
            go_wp2_with fail
            go_roundw
            case rel => exact ⟨k + 1, _, _, by omega, by go_num, HP5.out.put (keeps_ls d) 5 _ rfl fun W h => ⟨h.1, h.2.1, h.2.2.1, fun e => absurd e (by omega)⟩⟩
            case measure => simp [intOf]; omega
         · obtain rfl : n4 = k := by omega
           have HD := Lib.hid (Pushed.done (l := x.lists) (by rw [N4.out]; exact HPS.out) (keeps_ls d) (by rw [N4.out]; exact hn4))
           obtain ⟨vl, hvl⟩ : ∃ v, v = Value.slice sa n4 sc := ⟨_, rfl⟩
           have HVl : Hid (∃ a c, vl = Value.slice a n4 c) := Lib.hid ⟨_, _, hvl⟩
           have HPS2 : Hid (Pushed w pc gx x d 4 92 2 (fun w B => ArC w B d) x.arms 0 (.slice none 0 0) va (.slice aw n2 cw) vr (.slice sa n4 sc) (.slice none 0 0) wr) :=
            Lib.hid ⟨HPS.out.st, Copied.start _ _ _ _ _ _ _, fun b e => by simp [Value.ownBlock] at e, HD.out.2.1, fun _ => HD.out.2.2.1 (by omega), fun _ => HD.out.2.2.2.1 (by omega), fun _ => HD.out.1⟩
           clear HPS HD
           rw [← hvl] at HPS2
           clear hvl
           have HPS := HPS2
           clear HPS2
           go_wp2_with fail
           clear p0 p1 p2 p3 p4 p5 p6 pl hB hBz
           go_loopw [72] (fun i W => ∃ (k2 : Nat) (sa2 : Option Addr) (sc2 : Nat), k2 ≤ n5 ∧ i = .int .i64 k2 ∧ Pushed w pc gx x d 4 92 2 (fun w B => ArC w B d) x.arms k2 (.slice sa2 k2 sc2) va (.slice aw n2 cw) vr vl (.slice sa2 k2 sc2) W) (fun i _ => n5 - (intOf i).toNat)
           case atStart => exact ⟨0, none, 0, Nat.zero_le _, rfl, HPS.out⟩
           case round =>
            obtain ⟨k, sa, sc, hk, rfl, hps⟩ := hrel
            have HPS := Lib.hid hps
            clear hps
            have HPR : Hid (Blk wr w.heap.size 38 #[.int .i64 x.kind, .string x.name, .slice a1 n1 c1, .slice a2 n2 c2, .slice a3 n3 c3, .slice a4 n4 c4, .slice a5 n5 c5]) := Lib.hid (by rw [← HPC.out]; exact HPS.out.st.par)
            have hB := HPS.out.st.bel
            have hBz := hB.size
            obtain ⟨p0, p1, p2, p3, p4, p5, p6, pl⟩ := HPR.out.box7
            by_cases hlt : k < n5
            · obtain ⟨y, hy⟩ : ∃ y, x.arms[k]? = .some y := ⟨_, List.getElem?_eq_getElem (by rw [N5.out]; exact hlt)⟩
              have HYK := Lib.hid hy
              obtain ⟨b, o, c, hi, hbB, hce, ⟨wv, yv, rfl, hyw, hyp⟩, _⟩ := HM.out.at 36 90 Tryz.underlying36 (by kernel_rfl) hy
              have HYP := Lib.hid hyp
              have HYW := Lib.hid hyw
              obtain ⟨a6, c6, rfl, _⟩ := hyp.shape
              obtain ⟨a8, c8, rfl⟩ := hyw.shape
              have e0 := (hB.cell hbB).trans (hce 0 _ rfl)
              have e1 := (hB.cell hbB).trans (hce 1 _ rfl)
              have hbB' := Nat.lt_of_lt_of_le hbB hB.size
              rw [Nat.add_zero] at e0
              obtain ⟨cs, q1, q2, q3, q4⟩ := HPS.out.cp
              have Q1 := Lib.hid q1
              have Q2 := Lib.hid q2
              have Q3 := Lib.hid q3
              have Q4 := Lib.hid q4
              clear q1 q2 q3 q4
              clear hy hce hyp hyw
              go_upto_region 20 with fail
              obtain ⟨Y, hY⟩ : ∃ Y, Y = wr.alloc (.cells #[.slice a8 y.words.length c8, .slice a6 y.body.length c6] 90) := ⟨_, rfl⟩
              have y0 : Y.cell? ⟨wr.heap.size, 0, none⟩ = some (.slice a8 y.words.length c8) := by rw [hY]; simp
              have y1 : Y.cell? ⟨wr.heap.size, 1, none⟩ = some (.slice a6 y.body.length c6) := by rw [hY]; simp
              have HBY : Hid (Below wr.heap.size wr Y) := Lib.hid (by rw [hY]; exact bg)
              have hgY : wr.heap.size < Y.heap.size := by rw [hY]; simp
              have hgxr := HPS.out.st.box.lt
              have hgt := HPS.out.st.gt
              have hgxY : gx < Y.heap.size := by omega
              have HBOX := Lib.hid (HPS.out.st.box.below HBY.out hgxr)
              have bq := HBOX.out.cell 6
              have bf := HBOX.out.free 6
              simp at bq
              rw [← hY]
              clear hY
              have hBY : Below w.heap.size w Y := hB.trans (HBY.out.mono hBz)
              have HRW : Hid (∀ b, (Value.slice sa k sc).ownBlock = some b → b < Y.heap.size) := Lib.hid fun b e => by
               have := (World.ownsRow.lt Q3.out _ e).2
               omega
              have CW : Hid (∀ W, Below Y.heap.size Y W → Calls Tryz.prog 52 #[.slice a8 y.words.length c8] W fun e W' => ∃ a c, e = .returned (.slice a y.words.length c) ∧ (∀ W2, Below W'.heap.size W' W2 → ∀ g, (∀ b, g = some b → b < Y.heap.size) → WdsIn (onlyW W2 (freshB (w.heap.size + 2) [gx] g)) W2.heap.size d y.words (.slice a y.words.length c)) ∧ Below Y.heap.size Y W' ∧ Below W.heap.size W W') :=
               Lib.hid fun W hW => (HWS.out W _ _ (WdsIn.keep HYW.out fun size n v xs hs => (hs.below (hBY.trans (hW.mono hBY.size))).mono (Nat.le_trans hBY.size hW.size))).mono fun e W' ⟨a, c, h1, h2, h3⟩ =>
                ⟨a, c, h1, fun W2 hb g hg => later_wds h2 W2 hb _ [gx] g (by have := hW.size; omega) (by have := hW.size; simp; omega) fun b e => Nat.lt_of_lt_of_le (hg b e) hW.size, hW.trans (h3.mono hW.size), h3⟩
              have CN : Hid (∀ W, Below Y.heap.size Y W → Calls Tryz.prog 9 #[.slice a6 y.body.length c6] W fun e W' => ∃ a c, e = .returned (.slice a y.body.length c) ∧ (∀ W2, Below W'.heap.size W' W2 → ∀ g, (∀ b, g = some b → b < Y.heap.size) → NdsIn (onlyW W2 (freshB (w.heap.size + 2) [gx] g)) W2.heap.size d y.body (.slice a y.body.length c)) ∧ Below Y.heap.size Y W' ∧ Below W.heap.size W W') :=
               Lib.hid fun W hW => (HNC.out W _ _ ((HYP.out.below (hBY.trans (hW.mono hBY.size))).mono (Nat.le_trans hBY.size hW.size))).mono fun e W' ⟨a, c, h1, h2, h3⟩ =>
                ⟨a, c, h1, fun W2 hb g hg => later_nds h2 W2 hb _ [gx] g (by have := hW.size; omega) (by have := hW.size; simp; omega) fun b e => Nat.lt_of_lt_of_le (hg b e) hW.size, hW.trans (h3.mono hW.size), h3⟩
              clear e0 e1 hi p0 p1 p2 p3 p4 p5 p6 pl
              go_region_law (first
               | (go_simp; go_at_call 52; with_reducible refine (CW.out _ bg).mono ?_; rintro e w1 ⟨av, cv, rfl, hq1, hb1, hc1⟩; have d0 := (hb1.cell hgY).trans y0; have d1 := (hb1.cell hgY).trans y1; have hgy1 : wr.heap.size < w1.heap.size := Nat.lt_of_lt_of_le hgY hb1.size;
                  have hs1 := hb1.size; have hgx1 : gx < w1.heap.size := Nat.lt_of_lt_of_le hgxY hs1; have hz1 := hc1.size; (try simp only [World.size_alloc, World.size_setCell, World.size_drew, size_drewN] at hz1); have hr1 : Below wr.heap.size wr w1 := HBY.out.trans (hb1.mono HBY.out.size); have HQ1 := Lib.hid hq1; clear hq1; have gq1 := (hb1.cell (p := ⟨gx, 6, none⟩) hgxY).trans bq; have gf1 := (hb1.frozen (p := ⟨gx, 6, none⟩) hgxY).trans bf
                         )
               | (go_simp; go_at_call 9; with_reducible refine (CN.out _ bg).mono ?_; rintro e w2 ⟨ab, cb, rfl, hq2, hb2, hc2⟩; have d0 := (hb2.cell hgY).trans y0; have d1 := (hb2.cell hgY).trans y1; have hgy2 : wr.heap.size < w2.heap.size := Nat.lt_of_lt_of_le hgY hb2.size;
                  have hs2 := hb2.size; have hgx2 : gx < w2.heap.size := Nat.lt_of_lt_of_le hgxY hs2; have hz2 := hc2.size; (try simp only [World.size_alloc, World.size_setCell, World.size_drew, size_drewN] at hz2); have hr2 : Below wr.heap.size wr w2 := HBY.out.trans (hb2.mono HBY.out.size); have HQ2 := Lib.hid hq2; clear hq2; have gq2 := (hb2.cell (p := ⟨gx, 6, none⟩) hgxY).trans bq; have gf2 := (hb2.frozen (p := ⟨gx, 6, none⟩) hgxY).trans bf
                         )
               |
                (refine step_append_sl rfl _ _ 62 rfl (w.heap.size + 2) 92 Tryz.underlying62 infoM14 rfl (by decide) (v := .slice sa k sc) (n := k) (xs := cs.flatten) rfl (own_below Q3.out bg) (m := 1) (news := [.slice av y.words.length cv, .slice ab y.body.length cb]) rfl (sl_made_at _ #[.slice av y.words.length cv, .slice ab y.body.length cb] _ 1 2 rfl (by unfold maxLen; omega) (by simp)) (by omega) (by intro u hu; simp at hu; rcases hu with rfl | rfl <;> rfl) (by omega) (by simp; omega) ?_; intro g1 cap1 w5 hown hgrow hlie hglt; have HP5 := Lib.hid (HPS.out.push (keeps_ar d) hgrow hlie hown bg Q1.out Q2.out Q4.out HYK.out rfl ⟨_, _, rfl, HQ1.out _ bg _ HRW.out, HQ2.out _ bg _ HRW.out⟩); have hq5 := HP5.out.st.box.cell 6; have hf5 := HP5.out.st.box.free 6; simp at hq5; clear hown hgrow hlie hglt)
                        )
              all_goals
               go_wp2_with fail
               go_roundw
               case rel => exact ⟨k + 1, _, _, by omega, by go_num, HP5.out.put (keeps_ar d) 6 _ rfl fun W h => ⟨h.1, h.2.1, h.2.2.1, h.2.2.2⟩⟩
               case measure => simp [intOf]; omega
            · obtain rfl : n5 = k := by omega
              have HD := Lib.hid (Pushed.done (l := x.arms) (by rw [N5.out]; exact HPS.out) (keeps_ar d) (by rw [N5.out]; exact hn5))
              obtain ⟨vm, hvm⟩ : ∃ v, v = Value.slice sa n5 sc := ⟨_, rfl⟩
              have HVm : Hid (∃ a c, vm = Value.slice a n5 c) := Lib.hid ⟨_, _, hvm⟩
              have HKB : Hid (Blk wr gx 64 #[.int .i64 x.kind, .string x.name, va, .slice aw n2 cw, vr, vl, vm]) := Lib.hid (by rw [hvm]; exact HPS.out.st.box)
              have HKR := Lib.hid HPS.out.st.res
              have hgt := HPS.out.st.gt
              have HBW := Lib.hid HPS.out.st.bel
              have HD0 : Hid (ArsIn (onlyW wr (freshB (w.heap.size + 2) [gx] none)) wr.heap.size d x.arms vm) := Lib.hid (by rw [hvm]; exact HD.out.1)
              have HD1 := Lib.hid HD.out.2
              clear HPS HD hvm p0 p1 p2 p3 p4 p5 p6 pl hB
              obtain ⟨za1, zc1, rfl⟩ := HVa.out
              obtain ⟨za2, zc2, rfl⟩ := HVr.out
              obtain ⟨za3, zc3, rfl⟩ := HVl.out
              obtain ⟨za4, zc4, rfl⟩ := HVm.out
              clear HVa HVr HVl HVm
              obtain ⟨V, hV⟩ : ∃ V, V = ((((((wr.setCell ⟨w.heap.size + 1, 0, none⟩ (.int .i64 x.kind)).setCell ⟨w.heap.size + 1, 1, none⟩ (.string x.name)).setCell ⟨w.heap.size + 1, 2, none⟩ (.slice za1 n1 zc1)).setCell ⟨w.heap.size + 1, 3, none⟩ (.slice aw n2 cw)).setCell ⟨w.heap.size + 1, 4, none⟩ (.slice za2 n3 zc2)).setCell ⟨w.heap.size + 1, 5, none⟩ (.slice za3 n4 zc3)).setCell ⟨w.heap.size + 1, 6, none⟩ (.slice za4 n5 zc4) := ⟨_, rfl⟩
              have HKV : Hid (Blk V (w.heap.size + 1) 64 #[.int .i64 x.kind, .string x.name, .slice za1 n1 zc1, .slice aw n2 cw, .slice za2 n3 zc2, .slice za3 n4 zc3, .slice za4 n5 zc4]) := Lib.hid (by rw [hV]; exact ((((((HKR.out.put 0 _).put 1 _).put 2 _).put 3 _).put 4 _).put 5 _).put 6 _)
              have HK : Hid (Kept wr (w.heap.size + 2) [gx] none wr.heap.size V w.heap.size [] none V.heap.size) := Lib.hid ⟨by rw [hV]; simp, fun b h1 h2 h3 h4 => ⟨⟨by omega, by simp, by simp⟩, fun o => by
               rw [hV]
               repeat rw [World.cell?_setCell_other _ _ _ _ (fun e => by injection e with e _; omega)]⟩⟩
              have HBV : Hid (Below w.heap.size w V) := Lib.hid (by rw [hV]; exact ((((((HBW.out.setCell (by simp) _).setCell (by simp) _).setCell (by simp) _).setCell (by simp) _).setCell (by simp) _).setCell (by simp) _).setCell (by simp) _)
              have HV := Lib.hid hV
              clear hV
              obtain ⟨b0, b1, b2, b3, b4, b5, b6, bl⟩ := HKB.out.box7
              obtain ⟨r0, r1, r2, r3, r4, r5, r6, rl⟩ := HKR.out.box7
              have rf0 := HKR.out.free 0
              have rf1 := HKR.out.free 1
              have rf2 := HKR.out.free 2
              have rf3 := HKR.out.free 3
              have rf4 := HKR.out.free 4
              have rf5 := HKR.out.free 5
              have rf6 := HKR.out.free 6
              go_wp2_with fail
              rw [← HV.out]
              clear b0 b1 b2 b3 b4 b5 b6 bl r0 r1 r2 r3 r4 r5 r6 rl rf0 rf1 rf2 rf3 rf4 rf5 rf6
              obtain ⟨v0, v1, v2, v3, v4, v5, v6, vl⟩ := HKV.out.box7
              refine bodyPost_ret (v := .agg #[.int .i64 x.kind, .string x.name, .slice za1 n1 zc1, .slice aw n2 cw, .slice za2 n3 zc2, .slice za3 n4 zc3, .slice za4 n5 zc4]) (by simp [results, Tryz.results38, go_sem, v0, v1, v2, v3, v4, v5, v6]) rfl ?_
              exact ⟨_, _, _, _, _, _, _, _, _, _, rfl, ⟨HXZ.out, _, _, _, _, _, rfl, HK.out.ass (HD1.out.2.1 (by omega)), HK.out.wds HD1.out.1, HK.out.rds (HD1.out.2.2.1 (by omega)), HK.out.lss (HD1.out.2.2.2 (by omega)), HK.out.ars HD0.out⟩, HBV.out⟩
end Go.Proofs.YtnackmnoldkihaaGreatDoor
