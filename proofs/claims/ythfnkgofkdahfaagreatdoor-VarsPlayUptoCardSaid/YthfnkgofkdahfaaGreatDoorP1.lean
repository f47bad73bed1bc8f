/-
  The walk of Clone.
-/
import Derived.Test.YthfnkgofkdahfaaGreatDoorB7
namespace Go.Proofs.YthfnkgofkdahfaaGreatDoor
open Go.RowKit

section
variable {lo g mb n : Nat} {l : List (Nm × Xd)} {xs : List ByteArray} {st : Int}
set_option maxHeartbeats 2000000 in
set_option maxRecDepth 100000 in
theorem vclone_any (w : World) (hV : VSt w lo g mb n l xs st) (hn : n ≤ 10000) (hx : xs.length ≤ 1000) :
    Calls Tryz.prog 8 #[.pointer (some ⟨g, 0, none⟩)] w fun e w' => ∃ g2 mb2, e = .returned (.pointer (some ⟨g2, 0, none⟩)) ∧ VSt w' w.heap.size g2 mb2 n l xs st ∧ Below w.heap.size w w' := by
  obtain ⟨v0, m, q1, q2, q3, q4, q5, q6, q7, q8⟩ := hV
  have hlg := q3.lt
  have hlm := q5.lt
  obtain ⟨a, c, rfl, hE⟩ := q4.elems (by unfold maxLen; omega)
  obtain ⟨xl, hxl⟩ : ∃ x, x = xs.length := ⟨_, rfl⟩
  have CC : Hid (∀ W, Below w.heap.size w W → Calls Tryz.prog 12 #[.slice a xl c] W fun e w' => ∃ v', e = .returned v' ∧ OwnS w' W.heap.size v' xs ∧ Below W.heap.size W w') := Lib.hid fun W hW => by rw [hxl]; exact clone_any a _ c xs W _ (hE.below hW) hx
  have hmm := @run_makeMap Tryz.prog
  have y0 := q3.cell 0
  have y1 := q3.cell 1
  have y2 := q3.cell 2
  have y3 := q3.cell 3
  simp at y0 y1 y2 y3
  rw [← hxl] at y2
  have Q3 := Lib.hid q3
  have Q5 := Lib.hid q5
  have Q6 := Lib.hid q6
  have Q7 := Lib.hid q7
  have Q8 := Lib.hid q8
  have HXL := Lib.hid hxl
  clear q1 q2 q3 q4 q5 q6 q7 q8 hE hxl
  go_enter Tryz.func8, Tryz.ntmps8
  go_wp2_with fail
  refine (CC.out _ (by go_grown)).mono ?_
  rintro e w1 ⟨v', rfl, ho, hb1⟩
  have hs1 : w.heap.size < w1.heap.size := by have := hb1.size; simp at this; omega
  have HB1 : Hid (Below w.heap.size w w1) := Lib.hid (((Below.refl _ _).alloc (Nat.le_refl _) _).trans (hb1.mono (by simp)))
  have X2 : Hid (Blk w1 w.heap.size 44 #[.map (some mb), .string ⟨#[115, 104]⟩, .slice a xl c, .int .i64 st]) := Lib.hid ((Blk.new w _ _).below hb1 (by simp))
  have HO : Hid (OwnS w1 (w.heap.size + 1) v' xs) := Lib.hid (by simpa using ho)
  obtain ⟨va, vc, rfl⟩ := own_shape ho
  have x0 := X2.out.cell 0
  have x2 := X2.out.cell 2
  have f0 := X2.out.free 0
  have f2 := X2.out.free 2
  have z0 := (HB1.out.cell (p := ⟨g, 0, none⟩) hlg).trans y0
  have hgne : g ≠ w.heap.size := by omega
  have hgne2 : w.heap.size ≠ g := by omega
  have hg1 : g < w1.heap.size := by omega
  simp at x0 x2
  clear ho hb1 y0 y1 y2 y3
  obtain ⟨W5, hW5⟩ : ∃ W, W = ((w1.setCell ⟨w.heap.size, 2, none⟩ (.slice va xs.length vc)).setCell ⟨w.heap.size, 0, none⟩ (.map (some w1.heap.size))).alloc (.map #[] 0) := ⟨_, rfl⟩
  have HW5 := Lib.hid hW5
  have H5S : Hid (W5.heap.size = w1.heap.size + 1) := Lib.hid (by rw [hW5]; simp)
  have H5B : Hid (Below w.heap.size w W5) := Lib.hid (by rw [hW5]; exact ((HB1.out.setCell (p := ⟨w.heap.size, 2, none⟩) (Nat.le_refl _) _).setCell (p := ⟨w.heap.size, 0, none⟩) (Nat.le_refl _) _).alloc (by simp; omega) _)
  have H5M : Hid (MapS W5 mb n m) := Lib.hid (by rw [hW5]; exact (((Q5.out.below HB1.out).set (p := ⟨w.heap.size, 2, none⟩) (show mb ≠ w.heap.size by omega) _).set (p := ⟨w.heap.size, 0, none⟩) (show mb ≠ w.heap.size by omega) _).alloc _)
  have H5N : Hid (MapS W5 w1.heap.size 0 (fun _ => none)) := Lib.hid (by rw [hW5]; have := MapS.made ((w1.setCell ⟨w.heap.size, 2, none⟩ (.slice va xs.length vc)).setCell ⟨w.heap.size, 0, none⟩ (.map (some w1.heap.size))); simpa using this)
  have H5G : Hid (Blk W5 w.heap.size 44 #[.map (some w1.heap.size), .string ⟨#[115, 104]⟩, .slice va xs.length vc, .int .i64 st]) := Lib.hid (by rw [hW5]; exact ((X2.out.put 2 _).put 0 _).alloc _)
  have H5O : Hid (OwnS W5 (w.heap.size + 1) (.slice va xs.length vc) xs) := Lib.hid (by rw [hW5]; exact World.ownsRow.alloc (own_far (own_far HO.out (p := ⟨w.heap.size, 2, none⟩) (Nat.lt_succ_self _) _) (p := ⟨w.heap.size, 0, none⟩) (Nat.lt_succ_self _) _) _)
  have HVO : Hid (∀ b, (Value.slice va xs.length vc).ownBlock = some b → b < w1.heap.size) := Lib.hid fun b hb => (World.ownsRow.lt HO.out b hb).2
  have H5R := H5M
  rw [hW5] at H5R
  clear hW5
  go_wp2_with (at_range; refine wpList_range_s rfl _ 41 rfl Tryz.underlying41 rfl H5R.out ?_; intro w0 c0 hR0 hc0 hg0 hs0)
  go_frame
  rw [← HW5.out] at hR0 hg0 hs0 ⊢
  rw [H5S.out] at hR0 hs0 ⊢
  have hmr : mb ≠ w1.heap.size + 1 := by omega
  go_loopw [4] (fun _ wr => ∃ (left : Nm → Bool) (cnt : Nat), MapR wr mb (w1.heap.size + 1) n m left cnt ∧ cnt ≤ n ∧ MapS wr w1.heap.size (n - cnt) (fun t => if left t then none else m t) ∧ Blk wr w.heap.size 44 #[.map (some w1.heap.size), .string ⟨#[115, 104]⟩, .slice va xs.length vc, .int .i64 st] ∧ OwnS wr (w.heap.size + 1) (.slice va xs.length vc) xs ∧ Below w.heap.size w wr ∧ w1.heap.size + 2 ≤ wr.heap.size) (fun _ wr => wr.rangeLeft mb (w1.heap.size + 1))
  case atStart =>
    refine ⟨_, c0, hR0, hc0, ?_, H5G.out.grown hg0 (by simp), own_grown H5O.out hg0 (fun q hq => by cases hq), H5B.out.grown hg0 H5B.out.size (fun q hq => by cases hq), by omega⟩
    have h1 := (H5N.out.kept hg0 (by simp)).mono (Nat.zero_le (n - c0))
    have h2 : (fun t => if (m t).isSome = true then none else m t) = fun _ => none := by
      funext t
      cases m t <;> simp
    rw [h2]
    exact h1
  case round =>
    obtain ⟨left, cnt, hR, hcn, hN, hG, hO, hb, hsz⟩ := hrel
    have HR := Lib.hid hR
    have HN := Lib.hid hN
    have HG := Lib.hid hG
    have HO2 := Lib.hid hO
    have HB := Lib.hid hb
    have g0 := hG.cell 0
    simp at g0
    clear hR hN hG hO hb
    go_wp2_with (at_next; refine wpList_next_s rfl _ rfl rfl HR.out ?_ ?_)
    · intro hc0' hl0
      go_wp2_with fail
      go_ret
      have hmm2 : (fun t => if left t then none else m t) = m := by
        funext t
        rw [hl0 t]
        rfl
      have h1 := HN.out
      rw [hmm2] at h1
      have hvo := HVO.out
      refine ⟨_, w1.heap.size, rfl, ⟨_, m, ⟨Nat.le_refl _, by omega, by omega⟩, ⟨fun e => ?_, fun e => by have := hvo _ e; omega⟩, HG.out, own_from HO2.out (Nat.le_succ _), h1.mono (by omega), Q6.out, Q7.out, Q8.out⟩, HB.out⟩
      have := (World.ownsRow.lt HO2.out _ e).1
      omega
    · intro s u wA cnt1 hs hlk hmu hR1 hlt hg1 hsz1 hen
      obtain rfl := Q6.out.some hmu
      have hen2 := entry_below (w2 := wA.alloc (.cells #[.string ⟨#[]⟩, .bool false, .bool false, .bool false] 49)) ((Below.refl _ _).alloc (Nat.le_refl _) _) hen
      obtain ⟨⟨t0, s0, e0, f0⟩, hx⟩ : ∃ x, find l (L s) = x := ⟨_, rfl⟩
      have hmu2 : m (L s) = some (.agg #[.string ⟨t0.toArray⟩, .bool s0, .bool e0, .bool f0]) := by rw [hmu, hx]; rfl
      rw [hx] at hen hen2
      simp only [VX] at hen hen2
      have HMU := Lib.hid hmu2
      have HLK := Lib.hid hlk
      have HG1 := Lib.hid (HG.out.grown hg1 (show some (w1.heap.size + 1) ≠ some w.heap.size from fun e => by have := Option.some.inj e; omega))
      have HN1 := Lib.hid (HN.out.kept hg1 (show some w1.heap.size ≠ some (w1.heap.size + 1) from fun e => by have := Option.some.inj e; omega))
      have HO1 : Hid (OwnS wA (w.heap.size + 1) (.slice va xs.length vc) xs) := Lib.hid (World.ownsRow.kept HO2.out hg1 (.inr fun e => by have := HVO.out _ e; omega))
      have HBA : Hid (Below w.heap.size w wA) := Lib.hid (HB.out.grown hg1 HB.out.size fun j hj => by cases hj; omega)
      have HR1 := Lib.hid hR1
      have hszA : w1.heap.size + 2 ≤ wA.heap.size := by omega
      have hwA : w.heap.size < wA.heap.size := by omega
      have hgA := HG1.out.cell 0
      simp at hgA
      have HSS := Lib.hid hs
      clear hx hmu hmu2 hlk hR1 hg1 hsz1 g0 hs
      go_wp2_with (at_mapUpdate; go_must (refine wpList_put rfl _ _ _ _ rfl _ Tryz.underlying41 rfl (HN1.out.alloc _) (by unfold maxLen; omega) s (.agg #[.string ⟨t0.toArray⟩, .bool s0, .bool e0, .bool f0]) rfl rfl HSS.out ?_); intro w4 hm4 hg4; go_frame)
      have HG4 : Hid (Blk w4 w.heap.size 44 #[.map (some w1.heap.size), .string ⟨#[115, 104]⟩, .slice va xs.length vc, .int .i64 st]) := Lib.hid ((HG1.out.alloc _).grown hg4 (fun e => by have := Option.some.inj e; omega))
      have HR4 : Hid (MapR w4 mb (w1.heap.size + 1) n m (fun t => left t && !decide (t = L s)) cnt1) := Lib.hid ((HR1.out.kept (World.grownBy_alloc _ _ none) (by simp) (by simp)).kept hg4 (fun e => by have := Option.some.inj e; omega) (fun e => by have := Option.some.inj e; omega))
      have HO4 : Hid (OwnS w4 (w.heap.size + 1) (.slice va xs.length vc) xs) := Lib.hid (World.ownsRow.kept (World.ownsRow.alloc HO1.out _) hg4 (.inr fun e => by have := HVO.out _ e; omega))
      have HB4 : Hid (Below w.heap.size w w4) := Lib.hid ((HBA.out.alloc HBA.out.size _).grown hg4 (by have := HBA.out.size; simp; omega) fun j hj => by cases hj; omega)
      have HN4 : Hid (MapS w4 w1.heap.size (n - cnt1) (fun t => if (left t && !decide (t = L s)) = true then none else m t)) := Lib.hid (by
        have h1 := hm4.mono (show n - cnt + 1 ≤ n - cnt1 by omega)
        have h2 : (fun t => if (left t && !decide (t = L s)) = true then none else m t) = fun t => if t = L s then some (.agg #[.string ⟨t0.toArray⟩, .bool s0, .bool e0, .bool f0]) else if left t then none else m t := by
          funext t
          by_cases ht : t = L s
          · subst ht
            simp [HMU.out]
          · simp [ht]
        rw [h2]
        exact h1)
      have hsz4 : w1.heap.size + 2 ≤ w4.heap.size := by have := hg4.size; simp at this; omega
      clear hm4 hg4
      go_roundw
      case rel => exact ⟨_, cnt1, HR4.out, by omega, HN4.out, HG4.out, HO4.out, HB4.out, hsz4⟩
      case measure => rw [HR4.out.left_eq, HR.out.left_eq]; exact hlt
end
end Go.Proofs.YthfnkgofkdahfaaGreatDoor
