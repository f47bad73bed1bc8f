/-
  The walks of the document's Set, Unset, Mark.
-/
import Derived.Test.YthfnkgofkdahfaaGreatDoorB8
namespace Go.Proofs.YthfnkgofkdahfaaGreatDoor
open Go.RowKit

theorem set_results2 {w : World} {b : Nat} {tmps : Array Value} {c0 c1 c2 c3 z : Value} (h2 : tmps[6]?.getD undef = .pointer (some ⟨b, 0, none⟩)) (h3 : tmps[7]?.getD undef = z) (h : Blk w b 30 #[c0, c1, c2, c3]) :
    (results Tryz.f18 tmps).run Tryz.prog w = .ok (.tuple #[.agg #[c0, c1, c2, c3], z]) w := by
  have q0 := h.cell 0
  have q1 := h.cell 1
  have q2 := h.cell 2
  have q3 := h.cell 3
  simp at q0 q1 q2 q3
  simp [results, Tryz.results18, go_sem, h2, h3, q0, q1, q2, q3]
theorem mark_results2 {w : World} {b : Nat} {tmps : Array Value} {c0 c1 c2 c3 z : Value} (h2 : tmps[6]?.getD undef = .pointer (some ⟨b, 0, none⟩)) (h3 : tmps[7]?.getD undef = z) (h : Blk w b 30 #[c0, c1, c2, c3]) :
    (results Tryz.f22 tmps).run Tryz.prog w = .ok (.tuple #[.agg #[c0, c1, c2, c3], z]) w := by
  have q0 := h.cell 0
  have q1 := h.cell 1
  have q2 := h.cell 2
  have q3 := h.cell 3
  simp at q0 q1 q2 q3
  simp [results, Tryz.results22, go_sem, h2, h3, q0, q1, q2, q3]
theorem unset_results2 {w : World} {b : Nat} {tmps : Array Value} {c0 c1 c2 c3 z : Value} (h2 : tmps[4]?.getD undef = .pointer (some ⟨b, 0, none⟩)) (h3 : tmps[5]?.getD undef = z) (h : Blk w b 30 #[c0, c1, c2, c3]) :
    (results Tryz.f20 tmps).run Tryz.prog w = .ok (.tuple #[.agg #[c0, c1, c2, c3], z]) w := by
  have q0 := h.cell 0
  have q1 := h.cell 1
  have q2 := h.cell 2
  have q3 := h.cell 3
  simp at q0 q1 q2 q3
  simp [results, Tryz.results20, go_sem, h2, h3, q0, q1, q2, q3]

section
variable {lo B : Nat} {V : Value} {l : List (Nm × Xd)} {xs : List ByteArray} {st : Int}
set_option maxHeartbeats 1000000 in
theorem rset_any (nm tx : ByteArray) (w : World) (hR : RSt w lo B V l xs st) (hlo : lo ≤ w.heap.size) (hB : B ≤ w.heap.size) (hl : l.length ≤ 1000) (h1 : nm.size ≤ 100000000) :
    Calls Tryz.prog 18 #[V, .string nm, .string tx] w fun e w' => ∃ V', e = .returned (.tuple #[V', .int .i64 (setR l (L nm) (L tx)).2]) ∧ RSt w' lo B V' (setR l (L nm) (L tx)).1 xs st ∧ (V' = V ∨ RSt w' w.heap.size B V' (setR l (L nm) (L tx)).1 xs st) ∧ Below w.heap.size w w' := by
  obtain ⟨vL, a, c, rfl, hL, hE⟩ := hR
  obtain ⟨⟨t0, s0, e0, f0⟩, hx⟩ : ∃ x, find l (L nm) = x := ⟨_, rfl⟩
  obtain ⟨isn, hisn⟩ : ∃ b, nameL (L nm) = b := ⟨_, rfl⟩
  have HX := Lib.hid hx
  have HL := Lib.hid hL
  have HE := Lib.hid hE
  obtain ⟨n, hn⟩ : ∃ n, n = xs.length := ⟨_, rfl⟩
  rw [← hn]
  have HN := Lib.hid hn
  have CN : Hid (∀ W, Calls Tryz.prog 15 #[.string nm] W fun e w' => e = .returned (.bool isn) ∧ W = w') := Lib.hid fun W => by rw [← hisn]; exact rname_any nm W (by unfold maxLen; omega)
  have CF : Hid (∀ W, Below w.heap.size w W → Calls Tryz.prog 28 #[.agg #[vL, .string ⟨#[115, 104]⟩, .slice a n c, .int .i64 st], .string nm] W fun e w' =>
      e = .returned (.agg #[.string nm, .string ⟨t0.toArray⟩, .bool s0, .bool e0, .bool f0]) ∧ Below W.heap.size W w') := Lib.hid fun W hW => rfind_any vL l a n c st nm t0 s0 e0 f0 W lo (own_below hL hW) (by omega) hx
  have CP : Hid (∀ W (tx : Nm) (b1 b2 b3 : Bool), Below w.heap.size w W → Calls Tryz.prog 16 #[.agg #[vL, .string ⟨#[115, 104]⟩, .slice a n c, .int .i64 st], .agg #[.string nm, .string ⟨tx.toArray⟩, .bool b1, .bool b2, .bool b3]] W fun e w' =>
      ∃ va vc, e = .returned (.agg #[.slice va (putL l (L nm) ⟨tx, b1, b2, b3⟩).length vc, .string ⟨#[115, 104]⟩, .slice a n c, .int .i64 st]) ∧ LSt w' W.heap.size (.slice va (putL l (L nm) ⟨tx, b1, b2, b3⟩).length vc) (putL l (L nm) ⟨tx, b1, b2, b3⟩) ∧ Below W.heap.size W w') := Lib.hid fun W tx b1 b2 b3 hW =>
    (put_any vL l a n c st (L nm) tx b1 b2 b3 W lo (own_below hL hW) (Nat.le_trans hlo hW.size) (by omega)).mono fun e w' ⟨v', h1, h2, h3⟩ => by
      obtain ⟨va, vc, rfl⟩ := own_shape h2
      exact ⟨va, vc, h1, h2, h3⟩
  obtain ⟨va, vc, rfl⟩ := own_shape hL
  clear hx hn hL hE
  have HR : Hid (setR l (L nm) (L tx) = if isn then (if f0 then (l, 19) else (putL l (L nm) ⟨L tx, true, e0, f0⟩, 0)) else (l, 11)) := Lib.hid (by rw [setR, HX.out, hisn])
  have HLO := Lib.hid hlo
  have HBB := Lib.hid hB
  have H1 := Lib.hid h1
  clear hisn hlo hB h1
  cases isn with
  | false =>
    rw [show setR l (L nm) (L tx) = (l, 11) from HR.out]
    clear HR
    go_enter Tryz.func18, Tryz.ntmps18
    go_wp2_with fail
    obtain ⟨w3, hw3⟩ : ∃ W, W = (w.alloc (.cells #[.slice va l.length vc, .string ⟨#[115, 104]⟩, .slice a n c, .int .i64 st] 30)).alloc (.cells #[.slice none 0 0, .string ⟨#[]⟩, .slice none 0 0, .int .i64 0] 30) := ⟨_, rfl⟩
    have HB3 : Hid (Below w.heap.size w w3) := Lib.hid (by rw [hw3]; exact ((Below.refl _ _).alloc (Nat.le_refl _) _).alloc (by simp) _)
    have X3 : Hid (Blk w3 w.heap.size 30 #[.slice va l.length vc, .string ⟨#[115, 104]⟩, .slice a n c, .int .i64 st]) := Lib.hid (by rw [hw3]; exact (Blk.new w _ _).alloc _)
    have X4 : Hid (Blk w3 (w.heap.size + 1) 30 #[.slice none 0 0, .string ⟨#[]⟩, .slice none 0 0, .int .i64 0]) := Lib.hid (by rw [hw3]; have := Blk.new (w.alloc (.cells #[.slice va l.length vc, .string ⟨#[115, 104]⟩, .slice a n c, .int .i64 st] 30)) 30 #[.slice none 0 0, .string ⟨#[]⟩, .slice none 0 0, .int .i64 0]; simpa using this)
    have hs3 : w.heap.size + 1 < w3.heap.size := by rw [hw3]; simp
    rw [← hw3]
    clear hw3
    refine (CN.out _).mono ?_
    rintro e w4 ⟨rfl, rfl⟩
    have y30 := (X3.out).cell 0
    have y31 := (X3.out).cell 1
    have y32 := (X3.out).cell 2
    have y33 := (X3.out).cell 3
    have y40 := (X4.out).cell 0
    have y41 := (X4.out).cell 1
    have y42 := (X4.out).cell 2
    have y43 := (X4.out).cell 3
    have f40 := (X4.out).free 0
    have f41 := (X4.out).free 1
    have f42 := (X4.out).free 2
    have f43 := (X4.out).free 3
    simp at y30 y31 y32 y33 y40 y41 y42 y43
    go_wp2_with fail
    refine bodyPost_ret (set_results2 rfl rfl (X4.out.put4 _ _ _ _)) rfl ⟨_, rfl, ⟨.slice va l.length vc, a, c, by rw [← HN.out], own_below HL.out (below_put4 HB3.out (Nat.le_succ _) _ _ _ _), HE.out.below ((below_put4 HB3.out (Nat.le_succ _) _ _ _ _).mono HBB.out)⟩, .inl rfl, below_put4 HB3.out (Nat.le_succ _) _ _ _ _⟩
  | true =>
    cases f0 with
    | true =>
      rw [show setR l (L nm) (L tx) = (l, 19) from HR.out]
      clear HR
      go_enter Tryz.func18, Tryz.ntmps18
      go_wp2_with fail
      obtain ⟨w3, hw3⟩ : ∃ W, W = (w.alloc (.cells #[.slice va l.length vc, .string ⟨#[115, 104]⟩, .slice a n c, .int .i64 st] 30)).alloc (.cells #[.slice none 0 0, .string ⟨#[]⟩, .slice none 0 0, .int .i64 0] 30) := ⟨_, rfl⟩
      have HB3 : Hid (Below w.heap.size w w3) := Lib.hid (by rw [hw3]; exact ((Below.refl _ _).alloc (Nat.le_refl _) _).alloc (by simp) _)
      have X3 : Hid (Blk w3 w.heap.size 30 #[.slice va l.length vc, .string ⟨#[115, 104]⟩, .slice a n c, .int .i64 st]) := Lib.hid (by rw [hw3]; exact (Blk.new w _ _).alloc _)
      have X4 : Hid (Blk w3 (w.heap.size + 1) 30 #[.slice none 0 0, .string ⟨#[]⟩, .slice none 0 0, .int .i64 0]) := Lib.hid (by rw [hw3]; have := Blk.new (w.alloc (.cells #[.slice va l.length vc, .string ⟨#[115, 104]⟩, .slice a n c, .int .i64 st] 30)) 30 #[.slice none 0 0, .string ⟨#[]⟩, .slice none 0 0, .int .i64 0]; simpa using this)
      have hs3 : w.heap.size + 1 < w3.heap.size := by rw [hw3]; simp
      rw [← hw3]
      clear hw3
      refine (CN.out _).mono ?_
      rintro e w4 ⟨rfl, rfl⟩
      have y30 := (X3.out).cell 0
      have y31 := (X3.out).cell 1
      have y32 := (X3.out).cell 2
      have y33 := (X3.out).cell 3
      have y40 := (X4.out).cell 0
      have y41 := (X4.out).cell 1
      have y42 := (X4.out).cell 2
      have y43 := (X4.out).cell 3
      have f40 := (X4.out).free 0
      have f41 := (X4.out).free 1
      have f42 := (X4.out).free 2
      have f43 := (X4.out).free 3
      simp at y30 y31 y32 y33 y40 y41 y42 y43
      go_wp2_with fail
      refine (CF.out _ HB3.out).mono ?_
      rintro e w4 ⟨rfl, hb4⟩
      have HB4 : Hid (Below w3.heap.size w3 w4) := Lib.hid hb4
      have hs4 : w.heap.size + 1 < w4.heap.size := by have := hb4.size; omega
      have hs4a : w.heap.size < w4.heap.size := by omega
      have X3' := Lib.hid (X3.out.below hb4 X3.out.lt)
      have X4' := Lib.hid (X4.out.below hb4 X4.out.lt)
      clear y30 y31 y32 y33 y40 y41 y42 y43 f40 f41 f42 f43
      clear hb4
      have y30 := (X3'.out).cell 0
      have y31 := (X3'.out).cell 1
      have y32 := (X3'.out).cell 2
      have y33 := (X3'.out).cell 3
      have y40 := (X4'.out).cell 0
      have y41 := (X4'.out).cell 1
      have y42 := (X4'.out).cell 2
      have y43 := (X4'.out).cell 3
      have f40 := (X4'.out).free 0
      have f41 := (X4'.out).free 1
      have f42 := (X4'.out).free 2
      have f43 := (X4'.out).free 3
      simp at y30 y31 y32 y33 y40 y41 y42 y43
      go_wp2_with fail
      have HBF := (below_put4 (HB3.out.trans (HB4.out.mono (by omega))) (show w.heap.size ≤ w.heap.size + 1 by omega) (.slice va l.length vc) (.string ⟨#[115, 104]⟩) (.slice a n c) (.int .i64 st)).alloc (by simp; omega) (.cells #[.string nm, .string ⟨t0.toArray⟩, .bool s0, .bool e0, .bool true] 52)
      have X5 := (X4'.out.put4 (.slice va l.length vc) (.string ⟨#[115, 104]⟩) (.slice a n c) (.int .i64 st)).alloc (.cells #[.string nm, .string ⟨t0.toArray⟩, .bool s0, .bool e0, .bool true] 52)
      refine bodyPost_ret (set_results2 rfl rfl X5) rfl ⟨_, rfl, ⟨.slice va l.length vc, a, c, by rw [← HN.out], own_below HL.out HBF, HE.out.below (HBF.mono HBB.out)⟩, .inl rfl, HBF⟩
    | false =>
      rw [show setR l (L nm) (L tx) = (putL l (L nm) ⟨L tx, true, e0, false⟩, 0) from HR.out]
      clear HR
      go_enter Tryz.func18, Tryz.ntmps18
      go_wp2_with fail
      obtain ⟨w3, hw3⟩ : ∃ W, W = (w.alloc (.cells #[.slice va l.length vc, .string ⟨#[115, 104]⟩, .slice a n c, .int .i64 st] 30)).alloc (.cells #[.slice none 0 0, .string ⟨#[]⟩, .slice none 0 0, .int .i64 0] 30) := ⟨_, rfl⟩
      have HB3 : Hid (Below w.heap.size w w3) := Lib.hid (by rw [hw3]; exact ((Below.refl _ _).alloc (Nat.le_refl _) _).alloc (by simp) _)
      have X3 : Hid (Blk w3 w.heap.size 30 #[.slice va l.length vc, .string ⟨#[115, 104]⟩, .slice a n c, .int .i64 st]) := Lib.hid (by rw [hw3]; exact (Blk.new w _ _).alloc _)
      have X4 : Hid (Blk w3 (w.heap.size + 1) 30 #[.slice none 0 0, .string ⟨#[]⟩, .slice none 0 0, .int .i64 0]) := Lib.hid (by rw [hw3]; have := Blk.new (w.alloc (.cells #[.slice va l.length vc, .string ⟨#[115, 104]⟩, .slice a n c, .int .i64 st] 30)) 30 #[.slice none 0 0, .string ⟨#[]⟩, .slice none 0 0, .int .i64 0]; simpa using this)
      have hs3 : w.heap.size + 1 < w3.heap.size := by rw [hw3]; simp
      rw [← hw3]
      clear hw3
      refine (CN.out _).mono ?_
      rintro e w4 ⟨rfl, rfl⟩
      have y30 := (X3.out).cell 0
      have y31 := (X3.out).cell 1
      have y32 := (X3.out).cell 2
      have y33 := (X3.out).cell 3
      have y40 := (X4.out).cell 0
      have y41 := (X4.out).cell 1
      have y42 := (X4.out).cell 2
      have y43 := (X4.out).cell 3
      have f40 := (X4.out).free 0
      have f41 := (X4.out).free 1
      have f42 := (X4.out).free 2
      have f43 := (X4.out).free 3
      simp at y30 y31 y32 y33 y40 y41 y42 y43
      go_wp2_with fail
      refine (CF.out _ HB3.out).mono ?_
      rintro e w4 ⟨rfl, hb4⟩
      have HB4 : Hid (Below w3.heap.size w3 w4) := Lib.hid hb4
      have hs4 : w.heap.size + 1 < w4.heap.size := by have := hb4.size; omega
      have hs4a : w.heap.size < w4.heap.size := by omega
      have X3' := Lib.hid (X3.out.below hb4 X3.out.lt)
      have X4' := Lib.hid (X4.out.below hb4 X4.out.lt)
      clear y30 y31 y32 y33 y40 y41 y42 y43 f40 f41 f42 f43
      clear hb4
      have y30 := (X3'.out).cell 0
      have y31 := (X3'.out).cell 1
      have y32 := (X3'.out).cell 2
      have y33 := (X3'.out).cell 3
      have y40 := (X4'.out).cell 0
      have y41 := (X4'.out).cell 1
      have y42 := (X4'.out).cell 2
      have y43 := (X4'.out).cell 3
      have f40 := (X4'.out).free 0
      have f41 := (X4'.out).free 1
      have f42 := (X4'.out).free 2
      have f43 := (X4'.out).free 3
      simp at y30 y31 y32 y33 y40 y41 y42 y43
      go_wp2_with fail
      have HB5 : Hid (Below w.heap.size w (w4.alloc (.cells #[.string nm, .string tx, .bool true, .bool e0, .bool false] 52))) := Lib.hid ((HB3.out.trans (HB4.out.mono (by omega))).alloc (by omega) _)
      have X5 := Lib.hid (X4'.out.alloc (.cells #[.string nm, .string tx, .bool true, .bool e0, .bool false] 52))
      have CP2 : Hid (Calls Tryz.prog 16 #[.agg #[.slice va l.length vc, .string ⟨#[115, 104]⟩, .slice a n c, .int .i64 st], .agg #[.string nm, .string tx, .bool true, .bool e0, .bool false]] (w4.alloc (.cells #[.string nm, .string tx, .bool true, .bool e0, .bool false] 52)) _) := Lib.hid (CP.out (w4.alloc (.cells #[.string nm, .string tx, .bool true, .bool e0, .bool false] 52)) (L tx) true e0 false HB5.out)
      refine CP2.out.mono ?_
      rintro e w6 ⟨pa, pc, rfl, ho6, hb6⟩
      have HO6 := Lib.hid ho6
      have X6 := Lib.hid (X5.out.below hb6 X5.out.lt)
      have HB6 : Hid (Below w.heap.size w w6) := Lib.hid (HB5.out.trans (hb6.mono (by simp; omega)))
      have HP : Hid (w.heap.size + 1 < (w4.alloc (.cells #[.string nm, .string tx, .bool true, .bool e0, .bool false] 52)).heap.size) := Lib.hid (by simp; omega)
      clear y30 y31 y32 y33 y40 y41 y42 y43 f40 f41 f42 f43
      clear ho6 hb6 CP2
      have y40 := X6.out.cell 0
      have y41 := X6.out.cell 1
      have y42 := X6.out.cell 2
      have y43 := X6.out.cell 3
      have f40 := X6.out.free 0
      have f41 := X6.out.free 1
      have f42 := X6.out.free 2
      have f43 := X6.out.free 3
      simp at y40 y41 y42 y43
      go_wp2_with fail
      have HBF := below_put4 HB6.out (show w.heap.size ≤ w.heap.size + 1 by omega) (.slice pa (putL l (L nm) ⟨L tx, true, e0, false⟩).length pc) (.string ⟨#[115, 104]⟩) (.slice a n c) (.int .i64 st)
      have X7 := X6.out.put4 (.slice pa (putL l (L nm) ⟨L tx, true, e0, false⟩).length pc) (.string ⟨#[115, 104]⟩) (.slice a n c) (.int .i64 st)
      refine bodyPost_ret (set_results2 rfl rfl X7) rfl ⟨_, rfl, ⟨.slice pa (putL l (L nm) ⟨L tx, true, e0, false⟩).length pc, a, c, by rw [← HN.out], own_from (own_put4 HO6.out HP.out _ _ _ _) ?_, HE.out.below (HBF.mono HBB.out)⟩, .inr ⟨_, a, c, by rw [← HN.out], own_from (own_put4 HO6.out HP.out _ _ _ _) (by have := HP.out; simp at this ⊢; omega), HE.out.below (HBF.mono HBB.out)⟩, HBF⟩
      have := HLO.out
      simp
      omega

theorem field4X (a b : ByteArray) (s e f : Bool) (W : World) : (Instr.field 52 (.agg #[.string a, .string b, .bool s, .bool e, .bool f]) 4).run Tryz.prog W = .ok (.bool f) W := by kernel_rfl

set_option maxHeartbeats 1000000 in
theorem runset_any (nm : ByteArray) (w : World) (hR : RSt w lo B V l xs st) (hlo : lo ≤ w.heap.size) (hB : B ≤ w.heap.size) (hl : l.length ≤ 1000) (h1 : nm.size ≤ 100000000) :
    Calls Tryz.prog 20 #[V, .string nm] w fun e w' => ∃ V', e = .returned (.tuple #[V', .int .i64 (unsetR l (L nm)).2]) ∧ RSt w' lo B V' (unsetR l (L nm)).1 xs st ∧ (V' = V ∨ RSt w' w.heap.size B V' (unsetR l (L nm)).1 xs st) ∧ Below w.heap.size w w' := by
  obtain ⟨vL, a, c, rfl, hL, hE⟩ := hR
  obtain ⟨⟨t0, s0, e0, f0⟩, hx⟩ : ∃ x, find l (L nm) = x := ⟨_, rfl⟩
  obtain ⟨isn, hisn⟩ : ∃ b, nameL (L nm) = b := ⟨_, rfl⟩
  have HX := Lib.hid hx
  have HL := Lib.hid hL
  have HE := Lib.hid hE
  obtain ⟨n, hn⟩ : ∃ n, n = xs.length := ⟨_, rfl⟩
  rw [← hn]
  have HN := Lib.hid hn
  have CN : Hid (∀ W, Calls Tryz.prog 15 #[.string nm] W fun e w' => e = .returned (.bool isn) ∧ W = w') := Lib.hid fun W => by rw [← hisn]; exact rname_any nm W (by unfold maxLen; omega)
  have CF : Hid (∀ W, Below w.heap.size w W → Calls Tryz.prog 28 #[.agg #[vL, .string ⟨#[115, 104]⟩, .slice a n c, .int .i64 st], .string nm] W fun e w' =>
      e = .returned (.agg #[.string nm, .string ⟨t0.toArray⟩, .bool s0, .bool e0, .bool f0]) ∧ Below W.heap.size W w') := Lib.hid fun W hW => rfind_any vL l a n c st nm t0 s0 e0 f0 W lo (own_below hL hW) (by omega) hx
  have CP : Hid (∀ W (tx : Nm) (b1 b2 b3 : Bool), Below w.heap.size w W → Calls Tryz.prog 16 #[.agg #[vL, .string ⟨#[115, 104]⟩, .slice a n c, .int .i64 st], .agg #[.string nm, .string ⟨tx.toArray⟩, .bool b1, .bool b2, .bool b3]] W fun e w' =>
      ∃ va vc, e = .returned (.agg #[.slice va (putL l (L nm) ⟨tx, b1, b2, b3⟩).length vc, .string ⟨#[115, 104]⟩, .slice a n c, .int .i64 st]) ∧ LSt w' W.heap.size (.slice va (putL l (L nm) ⟨tx, b1, b2, b3⟩).length vc) (putL l (L nm) ⟨tx, b1, b2, b3⟩) ∧ Below W.heap.size W w') := Lib.hid fun W tx b1 b2 b3 hW =>
    (put_any vL l a n c st (L nm) tx b1 b2 b3 W lo (own_below hL hW) (Nat.le_trans hlo hW.size) (by omega)).mono fun e w' ⟨v', h1, h2, h3⟩ => by
      obtain ⟨va, vc, rfl⟩ := own_shape h2
      exact ⟨va, vc, h1, h2, h3⟩
  obtain ⟨va, vc, rfl⟩ := own_shape hL
  clear hx hn hL hE
  have HR : Hid (unsetR l (L nm) = if isn then (if f0 then (l, 19) else (putL l (L nm) d0, 0)) else (l, 11)) := Lib.hid (by rw [unsetR, HX.out, hisn])
  have HLO := Lib.hid hlo
  have HBB := Lib.hid hB
  have H1 := Lib.hid h1
  have hfd := field4X nm ⟨t0.toArray⟩ s0 e0 f0
  clear hisn hlo hB h1
  cases isn with
  | false =>
    rw [show unsetR l (L nm) = (l, 11) from HR.out]
    clear HR
    go_enter Tryz.func20, Tryz.ntmps20
    go_wp2_with fail
    obtain ⟨w3, hw3⟩ : ∃ W, W = (w.alloc (.cells #[.slice va l.length vc, .string ⟨#[115, 104]⟩, .slice a n c, .int .i64 st] 30)).alloc (.cells #[.slice none 0 0, .string ⟨#[]⟩, .slice none 0 0, .int .i64 0] 30) := ⟨_, rfl⟩
    have HB3 : Hid (Below w.heap.size w w3) := Lib.hid (by rw [hw3]; exact ((Below.refl _ _).alloc (Nat.le_refl _) _).alloc (by simp) _)
    have X3 : Hid (Blk w3 w.heap.size 30 #[.slice va l.length vc, .string ⟨#[115, 104]⟩, .slice a n c, .int .i64 st]) := Lib.hid (by rw [hw3]; exact (Blk.new w _ _).alloc _)
    have X4 : Hid (Blk w3 (w.heap.size + 1) 30 #[.slice none 0 0, .string ⟨#[]⟩, .slice none 0 0, .int .i64 0]) := Lib.hid (by rw [hw3]; have := Blk.new (w.alloc (.cells #[.slice va l.length vc, .string ⟨#[115, 104]⟩, .slice a n c, .int .i64 st] 30)) 30 #[.slice none 0 0, .string ⟨#[]⟩, .slice none 0 0, .int .i64 0]; simpa using this)
    have hs3 : w.heap.size + 1 < w3.heap.size := by rw [hw3]; simp
    rw [← hw3]
    clear hw3
    refine (CN.out _).mono ?_
    rintro e w4 ⟨rfl, rfl⟩
    have y30 := (X3.out).cell 0
    have y31 := (X3.out).cell 1
    have y32 := (X3.out).cell 2
    have y33 := (X3.out).cell 3
    have y40 := (X4.out).cell 0
    have y41 := (X4.out).cell 1
    have y42 := (X4.out).cell 2
    have y43 := (X4.out).cell 3
    have f40 := (X4.out).free 0
    have f41 := (X4.out).free 1
    have f42 := (X4.out).free 2
    have f43 := (X4.out).free 3
    simp at y30 y31 y32 y33 y40 y41 y42 y43
    go_wp2_with fail
    refine bodyPost_ret (unset_results2 rfl rfl (X4.out.put4 _ _ _ _)) rfl ⟨_, rfl, ⟨.slice va l.length vc, a, c, by rw [← HN.out], own_below HL.out (below_put4 HB3.out (Nat.le_succ _) _ _ _ _), HE.out.below ((below_put4 HB3.out (Nat.le_succ _) _ _ _ _).mono HBB.out)⟩, .inl rfl, below_put4 HB3.out (Nat.le_succ _) _ _ _ _⟩
  | true =>
    cases f0 with
    | true =>
      rw [show unsetR l (L nm) = (l, 19) from HR.out]
      clear HR
      go_enter Tryz.func20, Tryz.ntmps20
      go_wp2_with fail
      obtain ⟨w3, hw3⟩ : ∃ W, W = (w.alloc (.cells #[.slice va l.length vc, .string ⟨#[115, 104]⟩, .slice a n c, .int .i64 st] 30)).alloc (.cells #[.slice none 0 0, .string ⟨#[]⟩, .slice none 0 0, .int .i64 0] 30) := ⟨_, rfl⟩
      have HB3 : Hid (Below w.heap.size w w3) := Lib.hid (by rw [hw3]; exact ((Below.refl _ _).alloc (Nat.le_refl _) _).alloc (by simp) _)
      have X3 : Hid (Blk w3 w.heap.size 30 #[.slice va l.length vc, .string ⟨#[115, 104]⟩, .slice a n c, .int .i64 st]) := Lib.hid (by rw [hw3]; exact (Blk.new w _ _).alloc _)
      have X4 : Hid (Blk w3 (w.heap.size + 1) 30 #[.slice none 0 0, .string ⟨#[]⟩, .slice none 0 0, .int .i64 0]) := Lib.hid (by rw [hw3]; have := Blk.new (w.alloc (.cells #[.slice va l.length vc, .string ⟨#[115, 104]⟩, .slice a n c, .int .i64 st] 30)) 30 #[.slice none 0 0, .string ⟨#[]⟩, .slice none 0 0, .int .i64 0]; simpa using this)
      have hs3 : w.heap.size + 1 < w3.heap.size := by rw [hw3]; simp
      rw [← hw3]
      clear hw3
      refine (CN.out _).mono ?_
      rintro e w4 ⟨rfl, rfl⟩
      have y30 := (X3.out).cell 0
      have y31 := (X3.out).cell 1
      have y32 := (X3.out).cell 2
      have y33 := (X3.out).cell 3
      have y40 := (X4.out).cell 0
      have y41 := (X4.out).cell 1
      have y42 := (X4.out).cell 2
      have y43 := (X4.out).cell 3
      have f40 := (X4.out).free 0
      have f41 := (X4.out).free 1
      have f42 := (X4.out).free 2
      have f43 := (X4.out).free 3
      simp at y30 y31 y32 y33 y40 y41 y42 y43
      go_wp2_with fail
      refine (CF.out _ HB3.out).mono ?_
      rintro e w4 ⟨rfl, hb4⟩
      have HB4 : Hid (Below w3.heap.size w3 w4) := Lib.hid hb4
      have hs4 : w.heap.size + 1 < w4.heap.size := by have := hb4.size; omega
      have hs4a : w.heap.size < w4.heap.size := by omega
      have X3' := Lib.hid (X3.out.below hb4 X3.out.lt)
      have X4' := Lib.hid (X4.out.below hb4 X4.out.lt)
      clear y30 y31 y32 y33 y40 y41 y42 y43 f40 f41 f42 f43
      clear hb4
      have y30 := (X3'.out).cell 0
      have y31 := (X3'.out).cell 1
      have y32 := (X3'.out).cell 2
      have y33 := (X3'.out).cell 3
      have y40 := (X4'.out).cell 0
      have y41 := (X4'.out).cell 1
      have y42 := (X4'.out).cell 2
      have y43 := (X4'.out).cell 3
      have f40 := (X4'.out).free 0
      have f41 := (X4'.out).free 1
      have f42 := (X4'.out).free 2
      have f43 := (X4'.out).free 3
      simp at y30 y31 y32 y33 y40 y41 y42 y43
      go_wp2_with fail
      have HBF := (below_put4 (HB3.out.trans (HB4.out.mono (by omega))) (show w.heap.size ≤ w.heap.size + 1 by omega) (.slice va l.length vc) (.string ⟨#[115, 104]⟩) (.slice a n c) (.int .i64 st))
      have X5 := (X4'.out.put4 (.slice va l.length vc) (.string ⟨#[115, 104]⟩) (.slice a n c) (.int .i64 st))
      refine bodyPost_ret (unset_results2 rfl rfl X5) rfl ⟨_, rfl, ⟨.slice va l.length vc, a, c, by rw [← HN.out], own_below HL.out HBF, HE.out.below (HBF.mono HBB.out)⟩, .inl rfl, HBF⟩
    | false =>
      rw [show unsetR l (L nm) = (putL l (L nm) d0, 0) from HR.out]
      clear HR
      go_enter Tryz.func20, Tryz.ntmps20
      go_wp2_with fail
      obtain ⟨w3, hw3⟩ : ∃ W, W = (w.alloc (.cells #[.slice va l.length vc, .string ⟨#[115, 104]⟩, .slice a n c, .int .i64 st] 30)).alloc (.cells #[.slice none 0 0, .string ⟨#[]⟩, .slice none 0 0, .int .i64 0] 30) := ⟨_, rfl⟩
      have HB3 : Hid (Below w.heap.size w w3) := Lib.hid (by rw [hw3]; exact ((Below.refl _ _).alloc (Nat.le_refl _) _).alloc (by simp) _)
      have X3 : Hid (Blk w3 w.heap.size 30 #[.slice va l.length vc, .string ⟨#[115, 104]⟩, .slice a n c, .int .i64 st]) := Lib.hid (by rw [hw3]; exact (Blk.new w _ _).alloc _)
      have X4 : Hid (Blk w3 (w.heap.size + 1) 30 #[.slice none 0 0, .string ⟨#[]⟩, .slice none 0 0, .int .i64 0]) := Lib.hid (by rw [hw3]; have := Blk.new (w.alloc (.cells #[.slice va l.length vc, .string ⟨#[115, 104]⟩, .slice a n c, .int .i64 st] 30)) 30 #[.slice none 0 0, .string ⟨#[]⟩, .slice none 0 0, .int .i64 0]; simpa using this)
      have hs3 : w.heap.size + 1 < w3.heap.size := by rw [hw3]; simp
      rw [← hw3]
      clear hw3
      refine (CN.out _).mono ?_
      rintro e w4 ⟨rfl, rfl⟩
      have y30 := (X3.out).cell 0
      have y31 := (X3.out).cell 1
      have y32 := (X3.out).cell 2
      have y33 := (X3.out).cell 3
      have y40 := (X4.out).cell 0
      have y41 := (X4.out).cell 1
      have y42 := (X4.out).cell 2
      have y43 := (X4.out).cell 3
      have f40 := (X4.out).free 0
      have f41 := (X4.out).free 1
      have f42 := (X4.out).free 2
      have f43 := (X4.out).free 3
      simp at y30 y31 y32 y33 y40 y41 y42 y43
      go_wp2_with fail
      refine (CF.out _ HB3.out).mono ?_
      rintro e w4 ⟨rfl, hb4⟩
      have HB4 : Hid (Below w3.heap.size w3 w4) := Lib.hid hb4
      have hs4 : w.heap.size + 1 < w4.heap.size := by have := hb4.size; omega
      have hs4a : w.heap.size < w4.heap.size := by omega
      have X3' := Lib.hid (X3.out.below hb4 X3.out.lt)
      have X4' := Lib.hid (X4.out.below hb4 X4.out.lt)
      clear y30 y31 y32 y33 y40 y41 y42 y43 f40 f41 f42 f43
      clear hb4
      have y30 := (X3'.out).cell 0
      have y31 := (X3'.out).cell 1
      have y32 := (X3'.out).cell 2
      have y33 := (X3'.out).cell 3
      have y40 := (X4'.out).cell 0
      have y41 := (X4'.out).cell 1
      have y42 := (X4'.out).cell 2
      have y43 := (X4'.out).cell 3
      have f40 := (X4'.out).free 0
      have f41 := (X4'.out).free 1
      have f42 := (X4'.out).free 2
      have f43 := (X4'.out).free 3
      simp at y30 y31 y32 y33 y40 y41 y42 y43
      go_wp2_with fail
      have HB5 : Hid (Below w.heap.size w w4) := Lib.hid ((HB3.out.trans (HB4.out.mono (by omega))))
      have CP2 : Hid (Calls Tryz.prog 16 #[.agg #[.slice va l.length vc, .string ⟨#[115, 104]⟩, .slice a n c, .int .i64 st], .agg #[.string nm, .string ⟨#[]⟩, .bool false, .bool false, .bool false]] w4 _) := Lib.hid (CP.out w4 [] false false false HB5.out)
      refine CP2.out.mono ?_
      rintro e w6 ⟨pa, pc, rfl, ho6, hb6⟩
      have HO6 := Lib.hid ho6
      have X6 := Lib.hid (X4'.out.below hb6 X4'.out.lt)
      have HB6 : Hid (Below w.heap.size w w6) := Lib.hid (HB5.out.trans (hb6.mono (by omega)))
      have HP : Hid (w.heap.size + 1 < w4.heap.size) := Lib.hid hs4
      clear y30 y31 y32 y33 y40 y41 y42 y43 f40 f41 f42 f43
      clear ho6 hb6 CP2
      have y40 := X6.out.cell 0
      have y41 := X6.out.cell 1
      have y42 := X6.out.cell 2
      have y43 := X6.out.cell 3
      have f40 := X6.out.free 0
      have f41 := X6.out.free 1
      have f42 := X6.out.free 2
      have f43 := X6.out.free 3
      simp at y40 y41 y42 y43
      go_wp2_with fail
      have HBF := below_put4 HB6.out (show w.heap.size ≤ w.heap.size + 1 by omega) (.slice pa (putL l (L nm) d0).length pc) (.string ⟨#[115, 104]⟩) (.slice a n c) (.int .i64 st)
      have X7 := X6.out.put4 (.slice pa (putL l (L nm) d0).length pc) (.string ⟨#[115, 104]⟩) (.slice a n c) (.int .i64 st)
      refine bodyPost_ret (unset_results2 rfl rfl X7) rfl ⟨_, rfl, ⟨.slice pa (putL l (L nm) d0).length pc, a, c, by rw [← HN.out], own_from (own_put4 HO6.out HP.out _ _ _ _) ?_, HE.out.below (HBF.mono HBB.out)⟩, .inr ⟨.slice pa (putL l (L nm) d0).length pc, a, c, by rw [← HN.out], own_from (own_put4 HO6.out HP.out _ _ _ _) (by have := HP.out; omega), HE.out.below (HBF.mono HBB.out)⟩, HBF⟩
      have := HLO.out
      omega

set_option maxHeartbeats 1000000 in
theorem rexport_any (nm : ByteArray) (w : World) (hR : RSt w lo B V l xs st) (hlo : lo ≤ w.heap.size) (hB : B ≤ w.heap.size) (hl : l.length ≤ 1000) (h1 : nm.size ≤ 100000000) :
    Calls Tryz.prog 22 #[V, .string nm, .bool false] w fun e w' => ∃ V', e = .returned (.tuple #[V', .int .i64 (expR l (L nm)).2]) ∧ RSt w' lo B V' (expR l (L nm)).1 xs st ∧ (V' = V ∨ RSt w' w.heap.size B V' (expR l (L nm)).1 xs st) ∧ Below w.heap.size w w' := by
  obtain ⟨vL, a, c, rfl, hL, hE⟩ := hR
  obtain ⟨⟨t0, s0, e0, f0⟩, hx⟩ : ∃ x, find l (L nm) = x := ⟨_, rfl⟩
  obtain ⟨isn, hisn⟩ : ∃ b, nameL (L nm) = b := ⟨_, rfl⟩
  have HX := Lib.hid hx
  have HL := Lib.hid hL
  have HE := Lib.hid hE
  obtain ⟨n, hn⟩ : ∃ n, n = xs.length := ⟨_, rfl⟩
  rw [← hn]
  have HN := Lib.hid hn
  have CN : Hid (∀ W, Calls Tryz.prog 15 #[.string nm] W fun e w' => e = .returned (.bool isn) ∧ W = w') := Lib.hid fun W => by rw [← hisn]; exact rname_any nm W (by unfold maxLen; omega)
  have CF : Hid (∀ W, Below w.heap.size w W → Calls Tryz.prog 28 #[.agg #[vL, .string ⟨#[115, 104]⟩, .slice a n c, .int .i64 st], .string nm] W fun e w' =>
      e = .returned (.agg #[.string nm, .string ⟨t0.toArray⟩, .bool s0, .bool e0, .bool f0]) ∧ Below W.heap.size W w') := Lib.hid fun W hW => rfind_any vL l a n c st nm t0 s0 e0 f0 W lo (own_below hL hW) (by omega) hx
  have CP : Hid (∀ W (tx : Nm) (b1 b2 b3 : Bool), Below w.heap.size w W → Calls Tryz.prog 16 #[.agg #[vL, .string ⟨#[115, 104]⟩, .slice a n c, .int .i64 st], .agg #[.string nm, .string ⟨tx.toArray⟩, .bool b1, .bool b2, .bool b3]] W fun e w' =>
      ∃ va vc, e = .returned (.agg #[.slice va (putL l (L nm) ⟨tx, b1, b2, b3⟩).length vc, .string ⟨#[115, 104]⟩, .slice a n c, .int .i64 st]) ∧ LSt w' W.heap.size (.slice va (putL l (L nm) ⟨tx, b1, b2, b3⟩).length vc) (putL l (L nm) ⟨tx, b1, b2, b3⟩) ∧ Below W.heap.size W w') := Lib.hid fun W tx b1 b2 b3 hW =>
    (put_any vL l a n c st (L nm) tx b1 b2 b3 W lo (own_below hL hW) (Nat.le_trans hlo hW.size) (by omega)).mono fun e w' ⟨v', h1, h2, h3⟩ => by
      obtain ⟨va, vc, rfl⟩ := own_shape h2
      exact ⟨va, vc, h1, h2, h3⟩
  obtain ⟨va, vc, rfl⟩ := own_shape hL
  clear hx hn hL hE
  have HR : Hid (expR l (L nm) = if isn then (putL l (L nm) ⟨t0, s0, true, f0⟩, 0) else (l, 11)) := Lib.hid (by rw [expR, HX.out, hisn])
  have HLO := Lib.hid hlo
  have HBB := Lib.hid hB
  have H1 := Lib.hid h1
  clear hisn hlo hB h1
  cases isn with
  | false =>
    rw [show expR l (L nm) = (l, 11) from HR.out]
    clear HR
    go_enter Tryz.func22, Tryz.ntmps22
    go_wp2_with fail
    obtain ⟨w3, hw3⟩ : ∃ W, W = (w.alloc (.cells #[.slice va l.length vc, .string ⟨#[115, 104]⟩, .slice a n c, .int .i64 st] 30)).alloc (.cells #[.slice none 0 0, .string ⟨#[]⟩, .slice none 0 0, .int .i64 0] 30) := ⟨_, rfl⟩
    have HB3 : Hid (Below w.heap.size w w3) := Lib.hid (by rw [hw3]; exact ((Below.refl _ _).alloc (Nat.le_refl _) _).alloc (by simp) _)
    have X3 : Hid (Blk w3 w.heap.size 30 #[.slice va l.length vc, .string ⟨#[115, 104]⟩, .slice a n c, .int .i64 st]) := Lib.hid (by rw [hw3]; exact (Blk.new w _ _).alloc _)
    have X4 : Hid (Blk w3 (w.heap.size + 1) 30 #[.slice none 0 0, .string ⟨#[]⟩, .slice none 0 0, .int .i64 0]) := Lib.hid (by rw [hw3]; have := Blk.new (w.alloc (.cells #[.slice va l.length vc, .string ⟨#[115, 104]⟩, .slice a n c, .int .i64 st] 30)) 30 #[.slice none 0 0, .string ⟨#[]⟩, .slice none 0 0, .int .i64 0]; simpa using this)
    have hs3 : w.heap.size + 1 < w3.heap.size := by rw [hw3]; simp
    rw [← hw3]
    clear hw3
    refine (CN.out _).mono ?_
    rintro e w4 ⟨rfl, rfl⟩
    have y30 := (X3.out).cell 0
    have y31 := (X3.out).cell 1
    have y32 := (X3.out).cell 2
    have y33 := (X3.out).cell 3
    have y40 := (X4.out).cell 0
    have y41 := (X4.out).cell 1
    have y42 := (X4.out).cell 2
    have y43 := (X4.out).cell 3
    have f40 := (X4.out).free 0
    have f41 := (X4.out).free 1
    have f42 := (X4.out).free 2
    have f43 := (X4.out).free 3
    simp at y30 y31 y32 y33 y40 y41 y42 y43
    go_wp2_with fail
    refine bodyPost_ret (mark_results2 rfl rfl (X4.out.put4 _ _ _ _)) rfl ⟨_, rfl, ⟨.slice va l.length vc, a, c, by rw [← HN.out], own_below HL.out (below_put4 HB3.out (Nat.le_succ _) _ _ _ _), HE.out.below ((below_put4 HB3.out (Nat.le_succ _) _ _ _ _).mono HBB.out)⟩, .inl rfl, below_put4 HB3.out (Nat.le_succ _) _ _ _ _⟩
  | true =>
    rw [show expR l (L nm) = (putL l (L nm) ⟨t0, s0, true, f0⟩, 0) from HR.out]
    clear HR
    go_enter Tryz.func22, Tryz.ntmps22
    go_wp2_with fail
    obtain ⟨w3, hw3⟩ : ∃ W, W = (w.alloc (.cells #[.slice va l.length vc, .string ⟨#[115, 104]⟩, .slice a n c, .int .i64 st] 30)).alloc (.cells #[.slice none 0 0, .string ⟨#[]⟩, .slice none 0 0, .int .i64 0] 30) := ⟨_, rfl⟩
    have HB3 : Hid (Below w.heap.size w w3) := Lib.hid (by rw [hw3]; exact ((Below.refl _ _).alloc (Nat.le_refl _) _).alloc (by simp) _)
    have X3 : Hid (Blk w3 w.heap.size 30 #[.slice va l.length vc, .string ⟨#[115, 104]⟩, .slice a n c, .int .i64 st]) := Lib.hid (by rw [hw3]; exact (Blk.new w _ _).alloc _)
    have X4 : Hid (Blk w3 (w.heap.size + 1) 30 #[.slice none 0 0, .string ⟨#[]⟩, .slice none 0 0, .int .i64 0]) := Lib.hid (by rw [hw3]; have := Blk.new (w.alloc (.cells #[.slice va l.length vc, .string ⟨#[115, 104]⟩, .slice a n c, .int .i64 st] 30)) 30 #[.slice none 0 0, .string ⟨#[]⟩, .slice none 0 0, .int .i64 0]; simpa using this)
    have hs3 : w.heap.size + 1 < w3.heap.size := by rw [hw3]; simp
    rw [← hw3]
    clear hw3
    refine (CN.out _).mono ?_
    rintro e w4 ⟨rfl, rfl⟩
    have y30 := (X3.out).cell 0
    have y31 := (X3.out).cell 1
    have y32 := (X3.out).cell 2
    have y33 := (X3.out).cell 3
    have y40 := (X4.out).cell 0
    have y41 := (X4.out).cell 1
    have y42 := (X4.out).cell 2
    have y43 := (X4.out).cell 3
    have f40 := (X4.out).free 0
    have f41 := (X4.out).free 1
    have f42 := (X4.out).free 2
    have f43 := (X4.out).free 3
    simp at y30 y31 y32 y33 y40 y41 y42 y43
    go_wp2_with fail
    refine (CF.out _ HB3.out).mono ?_
    rintro e w4 ⟨rfl, hb4⟩
    have HB4 : Hid (Below w3.heap.size w3 w4) := Lib.hid hb4
    have hs4 : w.heap.size + 1 < w4.heap.size := by have := hb4.size; omega
    have hs4a : w.heap.size < w4.heap.size := by omega
    have X3' := Lib.hid (X3.out.below hb4 X3.out.lt)
    have X4' := Lib.hid (X4.out.below hb4 X4.out.lt)
    clear y30 y31 y32 y33 y40 y41 y42 y43 f40 f41 f42 f43
    clear hb4
    have y30 := (X3'.out).cell 0
    have y31 := (X3'.out).cell 1
    have y32 := (X3'.out).cell 2
    have y33 := (X3'.out).cell 3
    have y40 := (X4'.out).cell 0
    have y41 := (X4'.out).cell 1
    have y42 := (X4'.out).cell 2
    have y43 := (X4'.out).cell 3
    have f40 := (X4'.out).free 0
    have f41 := (X4'.out).free 1
    have f42 := (X4'.out).free 2
    have f43 := (X4'.out).free 3
    simp at y30 y31 y32 y33 y40 y41 y42 y43
    go_wp2_with fail
    have HB5 : Hid (Below w.heap.size w (w4.alloc (.cells #[.string nm, .string ⟨t0.toArray⟩, .bool s0, .bool true, .bool f0] 52))) := Lib.hid ((HB3.out.trans (HB4.out.mono (by omega))).alloc (by omega) _)
    have X5 := Lib.hid (X4'.out.alloc (.cells #[.string nm, .string ⟨t0.toArray⟩, .bool s0, .bool true, .bool f0] 52))
    have CP2 : Hid (Calls Tryz.prog 16 #[.agg #[.slice va l.length vc, .string ⟨#[115, 104]⟩, .slice a n c, .int .i64 st], .agg #[.string nm, .string ⟨t0.toArray⟩, .bool s0, .bool true, .bool f0]] (w4.alloc (.cells #[.string nm, .string ⟨t0.toArray⟩, .bool s0, .bool true, .bool f0] 52)) _) := Lib.hid (CP.out (w4.alloc (.cells #[.string nm, .string ⟨t0.toArray⟩, .bool s0, .bool true, .bool f0] 52)) t0 s0 true f0 HB5.out)
    refine CP2.out.mono ?_
    rintro e w6 ⟨pa, pc, rfl, ho6, hb6⟩
    have HO6 := Lib.hid ho6
    have X6 := Lib.hid (X5.out.below hb6 X5.out.lt)
    have HB6 : Hid (Below w.heap.size w w6) := Lib.hid (HB5.out.trans (hb6.mono (by simp; omega)))
    have HP : Hid (w.heap.size + 1 < (w4.alloc (.cells #[.string nm, .string ⟨t0.toArray⟩, .bool s0, .bool true, .bool f0] 52)).heap.size) := Lib.hid (by simp; omega)
    clear y30 y31 y32 y33 y40 y41 y42 y43 f40 f41 f42 f43
    clear ho6 hb6 CP2
    have y40 := X6.out.cell 0
    have y41 := X6.out.cell 1
    have y42 := X6.out.cell 2
    have y43 := X6.out.cell 3
    have f40 := X6.out.free 0
    have f41 := X6.out.free 1
    have f42 := X6.out.free 2
    have f43 := X6.out.free 3
    simp at y40 y41 y42 y43
    go_wp2_with fail
    have HBF := below_put4 HB6.out (show w.heap.size ≤ w.heap.size + 1 by omega) (.slice pa (putL l (L nm) ⟨t0, s0, true, f0⟩).length pc) (.string ⟨#[115, 104]⟩) (.slice a n c) (.int .i64 st)
    have X7 := X6.out.put4 (.slice pa (putL l (L nm) ⟨t0, s0, true, f0⟩).length pc) (.string ⟨#[115, 104]⟩) (.slice a n c) (.int .i64 st)
    refine bodyPost_ret (mark_results2 rfl rfl X7) rfl ⟨_, rfl, ⟨.slice pa (putL l (L nm) ⟨t0, s0, true, f0⟩).length pc, a, c, by rw [← HN.out], own_from (own_put4 HO6.out HP.out _ _ _ _) ?_, HE.out.below (HBF.mono HBB.out)⟩, .inr ⟨_, a, c, by rw [← HN.out], own_from (own_put4 HO6.out HP.out _ _ _ _) (by have := HP.out; simp at this ⊢; omega), HE.out.below (HBF.mono HBB.out)⟩, HBF⟩
    have := HLO.out
    simp
    omega
set_option maxHeartbeats 1000000 in
theorem rfix_any (nm : ByteArray) (w : World) (hR : RSt w lo B V l xs st) (hlo : lo ≤ w.heap.size) (hB : B ≤ w.heap.size) (hl : l.length ≤ 1000) (h1 : nm.size ≤ 100000000) :
    Calls Tryz.prog 22 #[V, .string nm, .bool true] w fun e w' => ∃ V', e = .returned (.tuple #[V', .int .i64 (fixR l (L nm)).2]) ∧ RSt w' lo B V' (fixR l (L nm)).1 xs st ∧ (V' = V ∨ RSt w' w.heap.size B V' (fixR l (L nm)).1 xs st) ∧ Below w.heap.size w w' := by
  obtain ⟨vL, a, c, rfl, hL, hE⟩ := hR
  obtain ⟨⟨t0, s0, e0, f0⟩, hx⟩ : ∃ x, find l (L nm) = x := ⟨_, rfl⟩
  obtain ⟨isn, hisn⟩ : ∃ b, nameL (L nm) = b := ⟨_, rfl⟩
  have HX := Lib.hid hx
  have HL := Lib.hid hL
  have HE := Lib.hid hE
  obtain ⟨n, hn⟩ : ∃ n, n = xs.length := ⟨_, rfl⟩
  rw [← hn]
  have HN := Lib.hid hn
  have CN : Hid (∀ W, Calls Tryz.prog 15 #[.string nm] W fun e w' => e = .returned (.bool isn) ∧ W = w') := Lib.hid fun W => by rw [← hisn]; exact rname_any nm W (by unfold maxLen; omega)
  have CF : Hid (∀ W, Below w.heap.size w W → Calls Tryz.prog 28 #[.agg #[vL, .string ⟨#[115, 104]⟩, .slice a n c, .int .i64 st], .string nm] W fun e w' =>
      e = .returned (.agg #[.string nm, .string ⟨t0.toArray⟩, .bool s0, .bool e0, .bool f0]) ∧ Below W.heap.size W w') := Lib.hid fun W hW => rfind_any vL l a n c st nm t0 s0 e0 f0 W lo (own_below hL hW) (by omega) hx
  have CP : Hid (∀ W (tx : Nm) (b1 b2 b3 : Bool), Below w.heap.size w W → Calls Tryz.prog 16 #[.agg #[vL, .string ⟨#[115, 104]⟩, .slice a n c, .int .i64 st], .agg #[.string nm, .string ⟨tx.toArray⟩, .bool b1, .bool b2, .bool b3]] W fun e w' =>
      ∃ va vc, e = .returned (.agg #[.slice va (putL l (L nm) ⟨tx, b1, b2, b3⟩).length vc, .string ⟨#[115, 104]⟩, .slice a n c, .int .i64 st]) ∧ LSt w' W.heap.size (.slice va (putL l (L nm) ⟨tx, b1, b2, b3⟩).length vc) (putL l (L nm) ⟨tx, b1, b2, b3⟩) ∧ Below W.heap.size W w') := Lib.hid fun W tx b1 b2 b3 hW =>
    (put_any vL l a n c st (L nm) tx b1 b2 b3 W lo (own_below hL hW) (Nat.le_trans hlo hW.size) (by omega)).mono fun e w' ⟨v', h1, h2, h3⟩ => by
      obtain ⟨va, vc, rfl⟩ := own_shape h2
      exact ⟨va, vc, h1, h2, h3⟩
  obtain ⟨va, vc, rfl⟩ := own_shape hL
  clear hx hn hL hE
  have HR : Hid (fixR l (L nm) = if isn then (putL l (L nm) ⟨t0, s0, e0, true⟩, 0) else (l, 11)) := Lib.hid (by rw [fixR, HX.out, hisn])
  have HLO := Lib.hid hlo
  have HBB := Lib.hid hB
  have H1 := Lib.hid h1
  clear hisn hlo hB h1
  cases isn with
  | false =>
    rw [show fixR l (L nm) = (l, 11) from HR.out]
    clear HR
    go_enter Tryz.func22, Tryz.ntmps22
    go_wp2_with fail
    obtain ⟨w3, hw3⟩ : ∃ W, W = (w.alloc (.cells #[.slice va l.length vc, .string ⟨#[115, 104]⟩, .slice a n c, .int .i64 st] 30)).alloc (.cells #[.slice none 0 0, .string ⟨#[]⟩, .slice none 0 0, .int .i64 0] 30) := ⟨_, rfl⟩
    have HB3 : Hid (Below w.heap.size w w3) := Lib.hid (by rw [hw3]; exact ((Below.refl _ _).alloc (Nat.le_refl _) _).alloc (by simp) _)
    have X3 : Hid (Blk w3 w.heap.size 30 #[.slice va l.length vc, .string ⟨#[115, 104]⟩, .slice a n c, .int .i64 st]) := Lib.hid (by rw [hw3]; exact (Blk.new w _ _).alloc _)
    have X4 : Hid (Blk w3 (w.heap.size + 1) 30 #[.slice none 0 0, .string ⟨#[]⟩, .slice none 0 0, .int .i64 0]) := Lib.hid (by rw [hw3]; have := Blk.new (w.alloc (.cells #[.slice va l.length vc, .string ⟨#[115, 104]⟩, .slice a n c, .int .i64 st] 30)) 30 #[.slice none 0 0, .string ⟨#[]⟩, .slice none 0 0, .int .i64 0]; simpa using this)
    have hs3 : w.heap.size + 1 < w3.heap.size := by rw [hw3]; simp
    rw [← hw3]
    clear hw3
    refine (CN.out _).mono ?_
    rintro e w4 ⟨rfl, rfl⟩
    have y30 := (X3.out).cell 0
    have y31 := (X3.out).cell 1
    have y32 := (X3.out).cell 2
    have y33 := (X3.out).cell 3
    have y40 := (X4.out).cell 0
    have y41 := (X4.out).cell 1
    have y42 := (X4.out).cell 2
    have y43 := (X4.out).cell 3
    have f40 := (X4.out).free 0
    have f41 := (X4.out).free 1
    have f42 := (X4.out).free 2
    have f43 := (X4.out).free 3
    simp at y30 y31 y32 y33 y40 y41 y42 y43
    go_wp2_with fail
    refine bodyPost_ret (mark_results2 rfl rfl (X4.out.put4 _ _ _ _)) rfl ⟨_, rfl, ⟨.slice va l.length vc, a, c, by rw [← HN.out], own_below HL.out (below_put4 HB3.out (Nat.le_succ _) _ _ _ _), HE.out.below ((below_put4 HB3.out (Nat.le_succ _) _ _ _ _).mono HBB.out)⟩, .inl rfl, below_put4 HB3.out (Nat.le_succ _) _ _ _ _⟩
  | true =>
    rw [show fixR l (L nm) = (putL l (L nm) ⟨t0, s0, e0, true⟩, 0) from HR.out]
    clear HR
    go_enter Tryz.func22, Tryz.ntmps22
    go_wp2_with fail
    obtain ⟨w3, hw3⟩ : ∃ W, W = (w.alloc (.cells #[.slice va l.length vc, .string ⟨#[115, 104]⟩, .slice a n c, .int .i64 st] 30)).alloc (.cells #[.slice none 0 0, .string ⟨#[]⟩, .slice none 0 0, .int .i64 0] 30) := ⟨_, rfl⟩
    have HB3 : Hid (Below w.heap.size w w3) := Lib.hid (by rw [hw3]; exact ((Below.refl _ _).alloc (Nat.le_refl _) _).alloc (by simp) _)
    have X3 : Hid (Blk w3 w.heap.size 30 #[.slice va l.length vc, .string ⟨#[115, 104]⟩, .slice a n c, .int .i64 st]) := Lib.hid (by rw [hw3]; exact (Blk.new w _ _).alloc _)
    have X4 : Hid (Blk w3 (w.heap.size + 1) 30 #[.slice none 0 0, .string ⟨#[]⟩, .slice none 0 0, .int .i64 0]) := Lib.hid (by rw [hw3]; have := Blk.new (w.alloc (.cells #[.slice va l.length vc, .string ⟨#[115, 104]⟩, .slice a n c, .int .i64 st] 30)) 30 #[.slice none 0 0, .string ⟨#[]⟩, .slice none 0 0, .int .i64 0]; simpa using this)
    have hs3 : w.heap.size + 1 < w3.heap.size := by rw [hw3]; simp
    rw [← hw3]
    clear hw3
    refine (CN.out _).mono ?_
    rintro e w4 ⟨rfl, rfl⟩
    have y30 := (X3.out).cell 0
    have y31 := (X3.out).cell 1
    have y32 := (X3.out).cell 2
    have y33 := (X3.out).cell 3
    have y40 := (X4.out).cell 0
    have y41 := (X4.out).cell 1
    have y42 := (X4.out).cell 2
    have y43 := (X4.out).cell 3
    have f40 := (X4.out).free 0
    have f41 := (X4.out).free 1
    have f42 := (X4.out).free 2
    have f43 := (X4.out).free 3
    simp at y30 y31 y32 y33 y40 y41 y42 y43
    go_wp2_with fail
    refine (CF.out _ HB3.out).mono ?_
    rintro e w4 ⟨rfl, hb4⟩
    have HB4 : Hid (Below w3.heap.size w3 w4) := Lib.hid hb4
    have hs4 : w.heap.size + 1 < w4.heap.size := by have := hb4.size; omega
    have hs4a : w.heap.size < w4.heap.size := by omega
    have X3' := Lib.hid (X3.out.below hb4 X3.out.lt)
    have X4' := Lib.hid (X4.out.below hb4 X4.out.lt)
    clear y30 y31 y32 y33 y40 y41 y42 y43 f40 f41 f42 f43
    clear hb4
    have y30 := (X3'.out).cell 0
    have y31 := (X3'.out).cell 1
    have y32 := (X3'.out).cell 2
    have y33 := (X3'.out).cell 3
    have y40 := (X4'.out).cell 0
    have y41 := (X4'.out).cell 1
    have y42 := (X4'.out).cell 2
    have y43 := (X4'.out).cell 3
    have f40 := (X4'.out).free 0
    have f41 := (X4'.out).free 1
    have f42 := (X4'.out).free 2
    have f43 := (X4'.out).free 3
    simp at y30 y31 y32 y33 y40 y41 y42 y43
    go_wp2_with fail
    have HB5 : Hid (Below w.heap.size w (w4.alloc (.cells #[.string nm, .string ⟨t0.toArray⟩, .bool s0, .bool e0, .bool true] 52))) := Lib.hid ((HB3.out.trans (HB4.out.mono (by omega))).alloc (by omega) _)
    have X5 := Lib.hid (X4'.out.alloc (.cells #[.string nm, .string ⟨t0.toArray⟩, .bool s0, .bool e0, .bool true] 52))
    have CP2 : Hid (Calls Tryz.prog 16 #[.agg #[.slice va l.length vc, .string ⟨#[115, 104]⟩, .slice a n c, .int .i64 st], .agg #[.string nm, .string ⟨t0.toArray⟩, .bool s0, .bool e0, .bool true]] (w4.alloc (.cells #[.string nm, .string ⟨t0.toArray⟩, .bool s0, .bool e0, .bool true] 52)) _) := Lib.hid (CP.out (w4.alloc (.cells #[.string nm, .string ⟨t0.toArray⟩, .bool s0, .bool e0, .bool true] 52)) t0 s0 e0 true HB5.out)
    refine CP2.out.mono ?_
    rintro e w6 ⟨pa, pc, rfl, ho6, hb6⟩
    have HO6 := Lib.hid ho6
    have X6 := Lib.hid (X5.out.below hb6 X5.out.lt)
    have HB6 : Hid (Below w.heap.size w w6) := Lib.hid (HB5.out.trans (hb6.mono (by simp; omega)))
    have HP : Hid (w.heap.size + 1 < (w4.alloc (.cells #[.string nm, .string ⟨t0.toArray⟩, .bool s0, .bool e0, .bool true] 52)).heap.size) := Lib.hid (by simp; omega)
    clear y30 y31 y32 y33 y40 y41 y42 y43 f40 f41 f42 f43
    clear ho6 hb6 CP2
    have y40 := X6.out.cell 0
    have y41 := X6.out.cell 1
    have y42 := X6.out.cell 2
    have y43 := X6.out.cell 3
    have f40 := X6.out.free 0
    have f41 := X6.out.free 1
    have f42 := X6.out.free 2
    have f43 := X6.out.free 3
    simp at y40 y41 y42 y43
    go_wp2_with fail
    have HBF := below_put4 HB6.out (show w.heap.size ≤ w.heap.size + 1 by omega) (.slice pa (putL l (L nm) ⟨t0, s0, e0, true⟩).length pc) (.string ⟨#[115, 104]⟩) (.slice a n c) (.int .i64 st)
    have X7 := X6.out.put4 (.slice pa (putL l (L nm) ⟨t0, s0, e0, true⟩).length pc) (.string ⟨#[115, 104]⟩) (.slice a n c) (.int .i64 st)
    refine bodyPost_ret (mark_results2 rfl rfl X7) rfl ⟨_, rfl, ⟨.slice pa (putL l (L nm) ⟨t0, s0, e0, true⟩).length pc, a, c, by rw [← HN.out], own_from (own_put4 HO6.out HP.out _ _ _ _) ?_, HE.out.below (HBF.mono HBB.out)⟩, .inr ⟨_, a, c, by rw [← HN.out], own_from (own_put4 HO6.out HP.out _ _ _ _) (by have := HP.out; simp at this ⊢; omega), HE.out.below (HBF.mono HBB.out)⟩, HBF⟩
    have := HLO.out
    simp
    omega
end
end Go.Proofs.YthfnkgofkdahfaaGreatDoor
