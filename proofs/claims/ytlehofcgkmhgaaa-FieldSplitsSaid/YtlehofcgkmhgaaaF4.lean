/-
  end: the walk.
-/
import Derived.Test.YtlehofcgkmhgaaaF3
import Derived.Test.YtlehofcgkmhgaaaSlStep
import Derived.Deep.RegionLaw
namespace Go.Proofs.Ytlehofcgkmhgaaa
open Go.RowKit

set_option maxHeartbeats 1000000 in
theorem end_any (s : St) (must : Bool) (g : Nat) (wh ot : ByteArray) (w : World) (h : SpAt w g wh ot s) (hn : s.out.length ≤ 1000000) :
    Calls Try.prog 15 #[.pointer (some ⟨g, 0, none⟩), .bool must] w fun e w' => e = .returned (.tuple #[]) ∧ SpAt w' g wh ot (endS s must) ∧ Below g w w' := by
  obtain ⟨vo, vn, fv, hsp, hout⟩ := h
  have hg := hsp.blk.lt
  obtain ⟨⟨c0, c1, c2, c3, c4, c5⟩, f2, f3, f4, f5⟩ := hsp.cells
  obtain ⟨out, now, op, due⟩ := s
  simp only at hsp hout hn c0 c1 c2 c3 c4 c5
  have hfl : fv.length ≤ 1000000 := by rw [← hout, List.length_map] at hn; exact hn
  have HO := Lib.hid hout
  have HS := Lib.hid hsp
  obtain ⟨oa, ocap, rfl⟩ := own_shape hsp.out
  obtain ⟨na, ncap, rfl⟩ := own_shape hsp.own
  have hlo : ∀ k, (Value.slice oa fv.length ocap).ownBlock = some k → g + 1 ≤ k := fun k hk => (World.ownsRow.lt hsp.out k hk).1
  clear hout hsp hn
  cases e : (op || must) with
  | false =>
    have e1 : op = false := by cases op <;> simp_all
    have e2 : must = false := by cases must <;> simp_all
    subst e1 e2
    go_enter Try.func15, Try.ntmps15
    go_wp2
    refine bodyPost_end (v := .tuple #[]) ?_ rfl ?_
    · simp [results, Try.results15, go_sem]
    exact ⟨rfl, ⟨_, _, fv, HS.out.drop, HO.out⟩, ((Below.refl g w).setCell (Nat.le_refl _) _).setCell (Nat.le_refl _) _⟩
  | true =>
    cases op with
    | true =>
      go_enter Try.func15, Try.ntmps15
      go_wp2_with fail
      go_region_law (refine step_append_sl rfl _ _ 27 rfl (g + 1) 30 Try.underlying27 infoFd rfl (by decide) (v := .slice oa fv.length ocap) (n := fv.length) (xs := fv.map (·.2)) rfl (by first | exact (own_below HS.out.out (Below.drew (Below.refl _ _))).alloc _ | exact own_below (HS.out.out.alloc _) (Below.drew (Below.refl _ _))) (m := 1) (news := [.slice na now.length ncap]) rfl (sl_made_at _ #[.slice na now.length ncap] _ 1 1 rfl (by unfold maxLen; omega) (by simp)) (by omega) (by intro u hu; simp at hu; subst hu; rfl) (by omega) (by simp; omega) ?_; intro g1 cap1 w2 hown hgrow hlie hglt; have hg2 : (w.alloc (.cells #[.slice na now.length ncap] 30)).grownBy w2 (Value.slice oa fv.length ocap).ownBlock := ⟨hgrow.os, hgrow.tape, hgrow.output, hgrow.size, hgrow.block⟩; obtain ⟨hb2, hcc, hff⟩ := grown_stays (Below.refl g w) hg hg2 hlo; have HP := Lib.hid ((HS.out.below (Below.alloc (Below.refl _ _) (Nat.le_refl _) _)).push hown hg2); have HB := Lib.hid (((hb2.setCell (p := ⟨g, 2, none⟩) (Nat.le_refl _) (.slice (some ⟨g1, 0, none⟩) (fv.length + 1) cap1)).setCell (p := ⟨g, 3, none⟩) (Nat.le_refl _) (.slice none 0 0)).setCell (p := ⟨g, 4, none⟩) (Nat.le_refl _) (.bool false)); have k2 := (hcc 2).trans c2; have k3 := (hcc 3).trans c3; have k4 := (hcc 4).trans c4; have y2 := (hff 2).trans f2; have y3 := (hff 3).trans f3; have y4 := (hff 4).trans f4; clear hg2 hb2 hcc hff hown hgrow hlie hglt)
      all_goals
        go_wp2
        refine bodyPost_end (v := .tuple #[]) ?_ rfl ?_
        · simp [results, Try.results15, go_sem]
        refine ⟨rfl, ⟨_, _, _, HP.out, ?_⟩, HB.out⟩
        rw [List.map_append, HO.out]
        first | rfl | (unfold endS; simp)
    | false =>
      have e2 : must = true := by cases must <;> simp_all
      subst e2
      go_enter Try.func15, Try.ntmps15
      go_wp2_with fail
      go_region_law (refine step_append_sl rfl _ _ 27 rfl (g + 1) 30 Try.underlying27 infoFd rfl (by decide) (v := .slice oa fv.length ocap) (n := fv.length) (xs := fv.map (·.2)) rfl (by first | exact (own_below HS.out.out (Below.drew (Below.refl _ _))).alloc _ | exact own_below (HS.out.out.alloc _) (Below.drew (Below.refl _ _))) (m := 1) (news := [.slice na now.length ncap]) rfl (sl_made_at _ #[.slice na now.length ncap] _ 1 1 rfl (by unfold maxLen; omega) (by simp)) (by omega) (by intro u hu; simp at hu; subst hu; rfl) (by omega) (by simp; omega) ?_; intro g1 cap1 w2 hown hgrow hlie hglt; have hg2 : (w.alloc (.cells #[.slice na now.length ncap] 30)).grownBy w2 (Value.slice oa fv.length ocap).ownBlock := ⟨hgrow.os, hgrow.tape, hgrow.output, hgrow.size, hgrow.block⟩; obtain ⟨hb2, hcc, hff⟩ := grown_stays (Below.refl g w) hg hg2 hlo; have HP := Lib.hid ((HS.out.below (Below.alloc (Below.refl _ _) (Nat.le_refl _) _)).push hown hg2); have HB := Lib.hid (((hb2.setCell (p := ⟨g, 2, none⟩) (Nat.le_refl _) (.slice (some ⟨g1, 0, none⟩) (fv.length + 1) cap1)).setCell (p := ⟨g, 3, none⟩) (Nat.le_refl _) (.slice none 0 0)).setCell (p := ⟨g, 4, none⟩) (Nat.le_refl _) (.bool false)); have k2 := (hcc 2).trans c2; have k3 := (hcc 3).trans c3; have k4 := (hcc 4).trans c4; have y2 := (hff 2).trans f2; have y3 := (hff 3).trans f3; have y4 := (hff 4).trans f4; clear hg2 hb2 hcc hff hown hgrow hlie hglt)
      all_goals
        go_wp2
        refine bodyPost_end (v := .tuple #[]) ?_ rfl ?_
        · simp [results, Try.results15, go_sem]
        refine ⟨rfl, ⟨_, _, _, HP.out, ?_⟩, HB.out⟩
        rw [List.map_append, HO.out]
        first | rfl | (unfold endS; simp)
end Go.Proofs.Ytlehofcgkmhgaaa
