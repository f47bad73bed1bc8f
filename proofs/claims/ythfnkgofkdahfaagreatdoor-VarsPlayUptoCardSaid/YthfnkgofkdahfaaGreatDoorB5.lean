/-
  The walks of Set, Unset, Export, Fix.
-/
import Derived.Test.YthfnkgofkdahfaaGreatDoorB3
import Derived.Test.YthfnkgofkdahfaaGreatDoorMapR
import Derived.RegionTactic
import Derived.Deep.QuietTactic
import Derived.BigQuiet
namespace Go.Proofs.YthfnkgofkdahfaaGreatDoor
open Go.RowKit

/-- What Set, Unset, Export and Fix make of variables, and what they return. -/
def setR (l : List (Nm × Xd)) (k t : Nm) : List (Nm × Xd) × Int :=
  if nameL k then (if (find l k).fix then (l, 19) else (putL l k ⟨t, true, (find l k).exp, (find l k).fix⟩, 0)) else (l, 11)
def unsetR (l : List (Nm × Xd)) (k : Nm) : List (Nm × Xd) × Int :=
  if nameL k then (if (find l k).fix then (l, 19) else (putL l k d0, 0)) else (l, 11)
def expR (l : List (Nm × Xd)) (k : Nm) : List (Nm × Xd) × Int :=
  if nameL k then (putL l k ⟨(find l k).text, (find l k).set, true, (find l k).fix⟩, 0) else (l, 11)
def fixR (l : List (Nm × Xd)) (k : Nm) : List (Nm × Xd) × Int :=
  if nameL k then (putL l k ⟨(find l k).text, (find l k).set, (find l k).exp, true⟩, 0) else (l, 11)

theorem zeroVX (w : World) : (zeroValue 49).run Tryz.prog w = .ok (VX d0) w := by kernel_rfl
/-- A variable's value, looked up. -/
theorem look_var {w : World} {mb n : Nat} {m : List UInt8 → Option Value} {l : List (Nm × Xd)} (h : MapS w mb n m) (hr : MRel m l) (s : ByteArray) (hs : s.size ≤ maxLen) :
    (Instr.lookup 41 (.map (some mb)) (.string s) false).run Tryz.prog w = .ok (VX (find l (L s))) w := by
  rw [h.look Tryz.underlying41 (zeroVX w) s hs, hr.get]

theorem field3 (a : ByteArray) (s e f : Bool) (W : World) : (Instr.field 49 (.agg #[.string a, .bool s, .bool e, .bool f]) 3).run Tryz.prog W = .ok (.bool f) W := by kernel_rfl
/-- What a call that fills an entry leaves. -/
theorem VS.filled {w w1 w' : World} {lo g mb n : Nat} {l : List (Nm × Xd)} {xs : List ByteArray} {st : Int} {v : Value} {m : List UInt8 → Option Value} {k : Nm} {x : Xd}
    (q1 : lo ≤ g ∧ lo ≤ mb ∧ mb ≠ g) (q2 : v.ownBlock ≠ some g ∧ v.ownBlock ≠ some mb) (q3 : Blk w g 44 #[.map (some mb), .string ⟨#[115, 104]⟩, v, .int .i64 st]) (q4 : OwnS w lo v xs) (q6 : MRel m l) (q7 : Rising l) (q8 : Good l)
    (hb : Below w.heap.size w w1) (hg : w1.grownBy w' (some mb)) (hm : MapS w' mb (n + 1) (fun t => if t = k then some (VX x) else m t)) (hk : nameL k = true) (h1 : k.length ≤ 1048576) (h2 : x.text.length ≤ 1048576) :
    VS v w' lo g mb (n + 1) (putL l k x) xs st ∧ But g mb w w' :=
  ⟨⟨_, q1, q2, (q3.below hb q3.lt).grown hg (fun e => q1.2.2 (Option.some.inj e)), World.ownsRow.kept (q4.below hb) hg (.inr q2.2), hm, q6.put k x, put_rising q7 k x, q8.put hk h1 h2⟩, (But.of_below hb).grownM hg⟩

section
variable {v : Value} {lo g mb n : Nat} {l : List (Nm × Xd)} {xs : List ByteArray} {st : Int}
set_option maxHeartbeats 2000000 in
theorem vset_any (nm tx : ByteArray) (w : World) (hV : VS v w lo g mb n l xs st) (hn : n ≤ 1000) (h1 : nm.size ≤ 1048576) (h2 : tx.size ≤ 1048576) :
    Calls Tryz.prog 17 #[.pointer (some ⟨g, 0, none⟩), .string nm, .string tx] w fun e w' => e = .returned (.int .i64 (setR l (L nm) (L tx)).2) ∧ VS v w' lo g mb (n + 1) (setR l (L nm) (L tx)).1 xs st ∧ But g mb w w' := by
  obtain ⟨m, q1, q2, q3, q4, q5, q6, q7, q8⟩ := hV
  obtain ⟨⟨t0, s0, e0, f0⟩, hx⟩ : ∃ x, find l (L nm) = x := ⟨_, rfl⟩
  have hft : t0.length ≤ 1048576 := by have := q8.find (L nm); rwa [hx] at this
  have hnm : nm.size ≤ maxLen := by unfold maxLen; omega
  have CN : Hid (∀ W, Calls Tryz.prog 14 #[.string nm] W fun e w' => e = .returned (.bool (nameL (L nm))) ∧ Below W.heap.size W w') := Lib.hid fun W => name_any nm W hnm
  obtain ⟨isn, hisn⟩ : ∃ b, nameL (L nm) = b := ⟨_, rfl⟩
  have HIS := Lib.hid hisn
  have hglt : g < w.heap.size := q3.lt
  have HLK : Hid (∀ W, Below w.heap.size w W → (Instr.lookup 41 (.map (some mb)) (.string nm) false).run Tryz.prog W = .ok (.agg #[.string ⟨t0.toArray⟩, .bool s0, .bool e0, .bool f0]) W) := Lib.hid fun W hW => by
    rw [look_var (q5.below hW) q6 nm hnm, hx]; rfl
  have Q := Lib.hid (And.intro q1 (And.intro q2 (And.intro q3 (And.intro q4 (And.intro q5 (And.intro q6 (And.intro q7 q8)))))))
  rw [hisn] at CN
  have y0 := q3.cell 0
  simp at y0
  have HF := Lib.hid hft
  have H1 := Lib.hid h1
  clear hft h1 hnm
  have hlk := HLK.out w (Below.refl _ _)
  have HR : Hid (setR l (L nm) (L tx) = if isn then (if f0 then (l, 19) else (putL l (L nm) ⟨L tx, true, e0, f0⟩, 0)) else (l, 11)) := Lib.hid (by rw [setR, hx, hisn])
  have HV : Hid (∀ W, Below w.heap.size w W → VS v W lo g mb (n + 1) l xs st) := Lib.hid fun W hW => (VS.below ⟨m, q1, q2, q3, q4, q5, q6, q7, q8⟩ hW).mono (Nat.le_succ _)
  clear hx hisn q1 q2 q3 q4 q5 q6 q7 q8
  have H2 := Lib.hid h2
  clear h2
  cases isn with
  | false =>
    rw [show setR l (L nm) (L tx) = (l, 11) from HR.out]
    clear HR
    go_enter Tryz.func17, Tryz.ntmps17
    go_wp2_with fail
    refine (CN.out _).mono ?_
    rintro e w1 ⟨rfl, hb1⟩
    have HB1 : Hid (Below w.heap.size w w1) := Lib.hid (((Below.refl _ _).alloc (Nat.le_refl _) _).trans (hb1.mono (by simp)))
    have z := (Blk.new w 49 #[.string ⟨t0.toArray⟩, .bool s0, .bool e0, .bool f0]).below hb1 (by simp)
    have Z := Lib.hid z
    have HS1 : Hid (w.heap.size < w1.heap.size) := Lib.hid (by have := hb1.size; simp at this; omega)
    have b0 := z.cell 0
    have b1 := z.cell 1
    have b2 := z.cell 2
    have b3 := z.cell 3
    have r0 := z.free 0
    have r1 := z.free 1
    have r2 := z.free 2
    have r3 := z.free 3
    simp at b0 b1 b2 b3
    have y1 := (HB1.out.cell (p := ⟨g, 0, none⟩) hglt).trans y0
    clear hb1 z
    go_wp2_with fail
    go_ret
    exact ⟨rfl, HV.out _ HB1.out, But.of_below HB1.out⟩
  | true =>
    cases f0 with
    | true =>
      rw [show setR l (L nm) (L tx) = (l, 19) from HR.out]
      clear HR
      go_enter Tryz.func17, Tryz.ntmps17
      go_wp2_with fail
      refine (CN.out _).mono ?_
      rintro e w1 ⟨rfl, hb1⟩
      have HB1 : Hid (Below w.heap.size w w1) := Lib.hid (((Below.refl _ _).alloc (Nat.le_refl _) _).trans (hb1.mono (by simp)))
      have z := (Blk.new w 49 #[.string ⟨t0.toArray⟩, .bool s0, .bool e0, .bool true]).below hb1 (by simp)
      have Z := Lib.hid z
      have HS1 : Hid (w.heap.size < w1.heap.size) := Lib.hid (by have := hb1.size; simp at this; omega)
      have b0 := z.cell 0
      have b1 := z.cell 1
      have b2 := z.cell 2
      have b3 := z.cell 3
      have r0 := z.free 0
      have r1 := z.free 1
      have r2 := z.free 2
      have r3 := z.free 3
      simp at b0 b1 b2 b3
      have y1 := (HB1.out.cell (p := ⟨g, 0, none⟩) hglt).trans y0
      clear hb1 z
      go_wp2_with fail
      go_ret
      exact ⟨rfl, HV.out _ HB1.out, But.of_below HB1.out⟩
    | false =>
      rw [show setR l (L nm) (L tx) = (putL l (L nm) ⟨L tx, true, e0, false⟩, 0) from HR.out]
      clear HR
      go_enter Tryz.func17, Tryz.ntmps17
      go_wp2_with fail
      refine (CN.out _).mono ?_
      rintro e w1 ⟨rfl, hb1⟩
      have HB1 : Hid (Below w.heap.size w w1) := Lib.hid (((Below.refl _ _).alloc (Nat.le_refl _) _).trans (hb1.mono (by simp)))
      have z := (Blk.new w 49 #[.string ⟨t0.toArray⟩, .bool s0, .bool e0, .bool false]).below hb1 (by simp)
      have Z := Lib.hid z
      have HS1 : Hid (w.heap.size < w1.heap.size) := Lib.hid (by have := hb1.size; simp at this; omega)
      have b0 := z.cell 0
      have b1 := z.cell 1
      have b2 := z.cell 2
      have b3 := z.cell 3
      have r0 := z.free 0
      have r1 := z.free 1
      have r2 := z.free 2
      have r3 := z.free 3
      simp at b0 b1 b2 b3
      have y1 := (HB1.out.cell (p := ⟨g, 0, none⟩) hglt).trans y0
      clear hb1 z
      go_wp2_with fail
      obtain ⟨w5, hw5⟩ : ∃ W, W = (w1.setCell ⟨w.heap.size, 0, none⟩ (.string tx)).setCell ⟨w.heap.size, 1, none⟩ (.bool true) := ⟨_, rfl⟩
      have Z5 : Blk w5 w.heap.size 49 #[.string tx, .bool true, .bool e0, .bool false] := by rw [hw5]; exact (Z.out.put 0 (.string tx)).put 1 (.bool true)
      have HB5 : Hid (Below w.heap.size w w5) := Lib.hid (by rw [hw5]; exact (HB1.out.setCell (p := ⟨w.heap.size, 0, none⟩) (Nat.le_refl _) _).setCell (p := ⟨w.heap.size, 1, none⟩) (Nat.le_refl _) _)
      rw [← hw5]
      have c0 := Z5.cell 0
      have c1 := Z5.cell 1
      have c2 := Z5.cell 2
      have c3 := Z5.cell 3
      simp at c0 c1 c2 c3
      have y5 := (HB5.out.cell (p := ⟨g, 0, none⟩) hglt).trans y0
      obtain ⟨q1, q2, q3, q4, q5, q6, q7, q8⟩ := Q.out
      have HM5 := Lib.hid (q5.below HB5.out)
      clear hw5 Z5 b0 b1 b2 b3 r0 r1 r2 r3 y1 q1 q2 q3 q4 q5 q6 q7 q8 hlk
      have hnm : nm.size ≤ maxLen := by unfold maxLen; have := H1.out; omega
      obtain ⟨w6, hr6, hm6, hg6⟩ := (show MapS w5.drew mb n m from HM5.out.below (Below.drew (Below.refl _ _))).put_run Tryz.underlying41 (by unfold maxLen; omega) nm (.agg #[.string tx, .bool true, .bool e0, .bool false]) hnm
      have HG6 : Hid (w5.grownBy w6 (some mb)) := Lib.hid ⟨hg6.os, hg6.tape, hg6.output, hg6.size, hg6.block⟩
      have HM6 := Lib.hid hm6
      clear hm6 hg6
      go_region
      clear hr6 c0 c1 c2 c3
      go_wp2_with fail
      go_ret
      obtain ⟨q1, q2, q3, q4, q5, q6, q7, q8⟩ := Q.out
      exact ⟨rfl, VS.filled (x := ⟨L tx, true, e0, false⟩) q1 q2 q3 q4 q6 q7 q8 HB5.out HG6.out HM6.out HIS.out H1.out H2.out⟩

set_option maxHeartbeats 2000000 in
theorem vexport_any (nm : ByteArray) (w : World) (hV : VS v w lo g mb n l xs st) (hn : n ≤ 1000) (h1 : nm.size ≤ 1048576) :
    Calls Tryz.prog 21 #[.pointer (some ⟨g, 0, none⟩), .string nm] w fun e w' => e = .returned (.int .i64 (expR l (L nm)).2) ∧ VS v w' lo g mb (n + 1) (expR l (L nm)).1 xs st ∧ But g mb w w' := by
  obtain ⟨m, q1, q2, q3, q4, q5, q6, q7, q8⟩ := hV
  obtain ⟨⟨t0, s0, e0, f0⟩, hx⟩ : ∃ x, find l (L nm) = x := ⟨_, rfl⟩
  have hft : t0.length ≤ 1048576 := by have := q8.find (L nm); rwa [hx] at this
  have hnm : nm.size ≤ maxLen := by unfold maxLen; omega
  have CN : Hid (∀ W, Calls Tryz.prog 14 #[.string nm] W fun e w' => e = .returned (.bool (nameL (L nm))) ∧ Below W.heap.size W w') := Lib.hid fun W => name_any nm W hnm
  obtain ⟨isn, hisn⟩ : ∃ b, nameL (L nm) = b := ⟨_, rfl⟩
  have HIS := Lib.hid hisn
  have hglt : g < w.heap.size := q3.lt
  have HLK : Hid (∀ W, Below w.heap.size w W → (Instr.lookup 41 (.map (some mb)) (.string nm) false).run Tryz.prog W = .ok (.agg #[.string ⟨t0.toArray⟩, .bool s0, .bool e0, .bool f0]) W) := Lib.hid fun W hW => by
    rw [look_var (q5.below hW) q6 nm hnm, hx]; rfl
  have Q := Lib.hid (And.intro q1 (And.intro q2 (And.intro q3 (And.intro q4 (And.intro q5 (And.intro q6 (And.intro q7 q8)))))))
  rw [hisn] at CN
  have y0 := q3.cell 0
  simp at y0
  have HF := Lib.hid hft
  have H1 := Lib.hid h1
  clear hft h1 hnm
  have HR : Hid (expR l (L nm) = if isn then (putL l (L nm) ⟨t0, s0, true, f0⟩, 0) else (l, 11)) := Lib.hid (by rw [expR, hx, hisn])
  have HV : Hid (∀ W, Below w.heap.size w W → VS v W lo g mb (n + 1) l xs st) := Lib.hid fun W hW => (VS.below ⟨m, q1, q2, q3, q4, q5, q6, q7, q8⟩ hW).mono (Nat.le_succ _)
  clear hx hisn q1 q2 q3 q4 q5 q6 q7 q8
  cases isn with
  | false =>
    rw [show expR l (L nm) = (l, 11) from HR.out]
    clear HR
    go_enter Tryz.func21, Tryz.ntmps21
    go_wp2_with fail
    refine (CN.out _).mono ?_
    rintro e w1 ⟨rfl, hb1⟩
    have HB1 : Hid (Below w.heap.size w w1) := Lib.hid hb1
    have HS1 : Hid (w.heap.size ≤ w1.heap.size) := Lib.hid hb1.size
    have hs1 := hb1.size
    have hlk := HLK.out w1 hb1
    have y1 := (HB1.out.cell (p := ⟨g, 0, none⟩) hglt).trans y0
    clear hb1
    go_wp2_with fail
    go_ret
    exact ⟨rfl, HV.out _ HB1.out, But.of_below HB1.out⟩
  | true =>
    rw [show expR l (L nm) = (putL l (L nm) ⟨t0, s0, true, f0⟩, 0) from HR.out]
    clear HR
    go_enter Tryz.func21, Tryz.ntmps21
    go_wp2_with fail
    refine (CN.out _).mono ?_
    rintro e w1 ⟨rfl, hb1⟩
    have HB1 : Hid (Below w.heap.size w w1) := Lib.hid hb1
    have HS1 : Hid (w.heap.size ≤ w1.heap.size) := Lib.hid hb1.size
    have hs1 := hb1.size
    have hlk := HLK.out w1 hb1
    have y1 := (HB1.out.cell (p := ⟨g, 0, none⟩) hglt).trans y0
    clear hb1
    go_wp2_with fail
    obtain ⟨w5, hw5⟩ : ∃ W, W = (w1.alloc (.cells #[.string ⟨t0.toArray⟩, .bool s0, .bool true, .bool f0] 49)) := ⟨_, rfl⟩
    have Z5 : Blk w5 w1.heap.size 49 #[.string ⟨t0.toArray⟩, .bool s0, .bool true, .bool f0] := by rw [hw5]; exact Blk.new w1 _ _
    have HB5 : Hid (Below w.heap.size w w5) := Lib.hid (by rw [hw5]; exact HB1.out.alloc HS1.out _)
    rw [← hw5]
    have c0 := Z5.cell 0
    have c1 := Z5.cell 1
    have c2 := Z5.cell 2
    have c3 := Z5.cell 3
    simp at c0 c1 c2 c3
    have y5 := (HB5.out.cell (p := ⟨g, 0, none⟩) hglt).trans y0
    obtain ⟨q1, q2, q3, q4, q5, q6, q7, q8⟩ := Q.out
    have HM5 := Lib.hid (q5.below HB5.out)
    clear hw5 Z5 y1 q1 q2 q3 q4 q5 q6 q7 q8 hlk
    have hnm : nm.size ≤ maxLen := by unfold maxLen; have := H1.out; omega
    obtain ⟨w6, hr6, hm6, hg6⟩ := (show MapS w5.drew mb n m from HM5.out.below (Below.drew (Below.refl _ _))).put_run Tryz.underlying41 (by unfold maxLen; omega) nm (.agg #[.string ⟨t0.toArray⟩, .bool s0, .bool true, .bool f0]) hnm
    have HG6 : Hid (w5.grownBy w6 (some mb)) := Lib.hid ⟨hg6.os, hg6.tape, hg6.output, hg6.size, hg6.block⟩
    have HM6 := Lib.hid hm6
    clear hm6 hg6
    go_region
    clear hr6 c0 c1 c2 c3
    go_wp2_with fail
    go_ret
    obtain ⟨q1, q2, q3, q4, q5, q6, q7, q8⟩ := Q.out
    exact ⟨rfl, VS.filled (x := ⟨t0, s0, true, f0⟩) q1 q2 q3 q4 q6 q7 q8 HB5.out HG6.out HM6.out HIS.out H1.out HF.out⟩
set_option maxHeartbeats 2000000 in
theorem vfix_any (nm : ByteArray) (w : World) (hV : VS v w lo g mb n l xs st) (hn : n ≤ 1000) (h1 : nm.size ≤ 1048576) :
    Calls Tryz.prog 23 #[.pointer (some ⟨g, 0, none⟩), .string nm] w fun e w' => e = .returned (.int .i64 (fixR l (L nm)).2) ∧ VS v w' lo g mb (n + 1) (fixR l (L nm)).1 xs st ∧ But g mb w w' := by
  obtain ⟨m, q1, q2, q3, q4, q5, q6, q7, q8⟩ := hV
  obtain ⟨⟨t0, s0, e0, f0⟩, hx⟩ : ∃ x, find l (L nm) = x := ⟨_, rfl⟩
  have hft : t0.length ≤ 1048576 := by have := q8.find (L nm); rwa [hx] at this
  have hnm : nm.size ≤ maxLen := by unfold maxLen; omega
  have CN : Hid (∀ W, Calls Tryz.prog 14 #[.string nm] W fun e w' => e = .returned (.bool (nameL (L nm))) ∧ Below W.heap.size W w') := Lib.hid fun W => name_any nm W hnm
  obtain ⟨isn, hisn⟩ : ∃ b, nameL (L nm) = b := ⟨_, rfl⟩
  have HIS := Lib.hid hisn
  have hglt : g < w.heap.size := q3.lt
  have HLK : Hid (∀ W, Below w.heap.size w W → (Instr.lookup 41 (.map (some mb)) (.string nm) false).run Tryz.prog W = .ok (.agg #[.string ⟨t0.toArray⟩, .bool s0, .bool e0, .bool f0]) W) := Lib.hid fun W hW => by
    rw [look_var (q5.below hW) q6 nm hnm, hx]; rfl
  have Q := Lib.hid (And.intro q1 (And.intro q2 (And.intro q3 (And.intro q4 (And.intro q5 (And.intro q6 (And.intro q7 q8)))))))
  rw [hisn] at CN
  have y0 := q3.cell 0
  simp at y0
  have HF := Lib.hid hft
  have H1 := Lib.hid h1
  clear hft h1 hnm
  have HR : Hid (fixR l (L nm) = if isn then (putL l (L nm) ⟨t0, s0, e0, true⟩, 0) else (l, 11)) := Lib.hid (by rw [fixR, hx, hisn])
  have HV : Hid (∀ W, Below w.heap.size w W → VS v W lo g mb (n + 1) l xs st) := Lib.hid fun W hW => (VS.below ⟨m, q1, q2, q3, q4, q5, q6, q7, q8⟩ hW).mono (Nat.le_succ _)
  clear hx hisn q1 q2 q3 q4 q5 q6 q7 q8
  cases isn with
  | false =>
    rw [show fixR l (L nm) = (l, 11) from HR.out]
    clear HR
    go_enter Tryz.func23, Tryz.ntmps23
    go_wp2_with fail
    refine (CN.out _).mono ?_
    rintro e w1 ⟨rfl, hb1⟩
    have HB1 : Hid (Below w.heap.size w w1) := Lib.hid hb1
    have HS1 : Hid (w.heap.size ≤ w1.heap.size) := Lib.hid hb1.size
    have hs1 := hb1.size
    have hlk := HLK.out w1 hb1
    have y1 := (HB1.out.cell (p := ⟨g, 0, none⟩) hglt).trans y0
    clear hb1
    go_wp2_with fail
    go_ret
    exact ⟨rfl, HV.out _ HB1.out, But.of_below HB1.out⟩
  | true =>
    rw [show fixR l (L nm) = (putL l (L nm) ⟨t0, s0, e0, true⟩, 0) from HR.out]
    clear HR
    go_enter Tryz.func23, Tryz.ntmps23
    go_wp2_with fail
    refine (CN.out _).mono ?_
    rintro e w1 ⟨rfl, hb1⟩
    have HB1 : Hid (Below w.heap.size w w1) := Lib.hid hb1
    have HS1 : Hid (w.heap.size ≤ w1.heap.size) := Lib.hid hb1.size
    have hs1 := hb1.size
    have hlk := HLK.out w1 hb1
    have y1 := (HB1.out.cell (p := ⟨g, 0, none⟩) hglt).trans y0
    clear hb1
    go_wp2_with fail
    obtain ⟨w5, hw5⟩ : ∃ W, W = (w1.alloc (.cells #[.string ⟨t0.toArray⟩, .bool s0, .bool e0, .bool true] 49)) := ⟨_, rfl⟩
    have Z5 : Blk w5 w1.heap.size 49 #[.string ⟨t0.toArray⟩, .bool s0, .bool e0, .bool true] := by rw [hw5]; exact Blk.new w1 _ _
    have HB5 : Hid (Below w.heap.size w w5) := Lib.hid (by rw [hw5]; exact HB1.out.alloc HS1.out _)
    rw [← hw5]
    have c0 := Z5.cell 0
    have c1 := Z5.cell 1
    have c2 := Z5.cell 2
    have c3 := Z5.cell 3
    simp at c0 c1 c2 c3
    have y5 := (HB5.out.cell (p := ⟨g, 0, none⟩) hglt).trans y0
    obtain ⟨q1, q2, q3, q4, q5, q6, q7, q8⟩ := Q.out
    have HM5 := Lib.hid (q5.below HB5.out)
    clear hw5 Z5 y1 q1 q2 q3 q4 q5 q6 q7 q8 hlk
    have hnm : nm.size ≤ maxLen := by unfold maxLen; have := H1.out; omega
    obtain ⟨w6, hr6, hm6, hg6⟩ := (show MapS w5.drew mb n m from HM5.out.below (Below.drew (Below.refl _ _))).put_run Tryz.underlying41 (by unfold maxLen; omega) nm (.agg #[.string ⟨t0.toArray⟩, .bool s0, .bool e0, .bool true]) hnm
    have HG6 : Hid (w5.grownBy w6 (some mb)) := Lib.hid ⟨hg6.os, hg6.tape, hg6.output, hg6.size, hg6.block⟩
    have HM6 := Lib.hid hm6
    clear hm6 hg6
    go_region
    clear hr6 c0 c1 c2 c3
    go_wp2_with fail
    go_ret
    obtain ⟨q1, q2, q3, q4, q5, q6, q7, q8⟩ := Q.out
    exact ⟨rfl, VS.filled (x := ⟨t0, s0, e0, true⟩) q1 q2 q3 q4 q6 q7 q8 HB5.out HG6.out HM6.out HIS.out H1.out HF.out⟩

set_option maxHeartbeats 2000000 in
theorem vunset_any (nm : ByteArray) (w : World) (hV : VS v w lo g mb n l xs st) (hn : n ≤ 1000) (h1 : nm.size ≤ 1048576) :
    Calls Tryz.prog 19 #[.pointer (some ⟨g, 0, none⟩), .string nm] w fun e w' => e = .returned (.int .i64 (unsetR l (L nm)).2) ∧ VS v w' lo g mb (n + 1) (unsetR l (L nm)).1 xs st ∧ But g mb w w' := by
  obtain ⟨m, q1, q2, q3, q4, q5, q6, q7, q8⟩ := hV
  obtain ⟨⟨t0, s0, e0, f0⟩, hx⟩ : ∃ x, find l (L nm) = x := ⟨_, rfl⟩
  have hft : t0.length ≤ 1048576 := by have := q8.find (L nm); rwa [hx] at this
  have hnm : nm.size ≤ maxLen := by unfold maxLen; omega
  have CN : Hid (∀ W, Calls Tryz.prog 14 #[.string nm] W fun e w' => e = .returned (.bool (nameL (L nm))) ∧ Below W.heap.size W w') := Lib.hid fun W => name_any nm W hnm
  obtain ⟨isn, hisn⟩ : ∃ b, nameL (L nm) = b := ⟨_, rfl⟩
  have HIS := Lib.hid hisn
  have hglt : g < w.heap.size := q3.lt
  have HLK : Hid (∀ W, Below w.heap.size w W → (Instr.lookup 41 (.map (some mb)) (.string nm) false).run Tryz.prog W = .ok (.agg #[.string ⟨t0.toArray⟩, .bool s0, .bool e0, .bool f0]) W) := Lib.hid fun W hW => by
    rw [look_var (q5.below hW) q6 nm hnm, hx]; rfl
  have Q := Lib.hid (And.intro q1 (And.intro q2 (And.intro q3 (And.intro q4 (And.intro q5 (And.intro q6 (And.intro q7 q8)))))))
  rw [hisn] at CN
  have y0 := q3.cell 0
  simp at y0
  have HF := Lib.hid hft
  have H1 := Lib.hid h1
  clear hft h1 hnm
  have HR : Hid (unsetR l (L nm) = if isn then (if f0 then (l, 19) else (putL l (L nm) d0, 0)) else (l, 11)) := Lib.hid (by rw [unsetR, hx, hisn])
  have HV : Hid (∀ W, Below w.heap.size w W → VS v W lo g mb (n + 1) l xs st) := Lib.hid fun W hW => (VS.below ⟨m, q1, q2, q3, q4, q5, q6, q7, q8⟩ hW).mono (Nat.le_succ _)
  clear hx hisn q1 q2 q3 q4 q5 q6 q7 q8
  have hfd := field3 ⟨t0.toArray⟩ s0 e0 f0
  cases isn with
  | false =>
    rw [show unsetR l (L nm) = (l, 11) from HR.out]
    clear HR
    go_enter Tryz.func19, Tryz.ntmps19
    go_wp2_with fail
    refine (CN.out _).mono ?_
    rintro e w1 ⟨rfl, hb1⟩
    have HB1 : Hid (Below w.heap.size w w1) := Lib.hid hb1
    have HS1 : Hid (w.heap.size ≤ w1.heap.size) := Lib.hid hb1.size
    have hs1 := hb1.size
    have hlk := HLK.out w1 hb1
    have y1 := (HB1.out.cell (p := ⟨g, 0, none⟩) hglt).trans y0
    clear hb1
    go_wp2_with fail
    go_ret
    exact ⟨rfl, HV.out _ HB1.out, But.of_below HB1.out⟩
  | true =>
    cases f0 with
    | true =>
      rw [show unsetR l (L nm) = (l, 19) from HR.out]
      clear HR
      go_enter Tryz.func19, Tryz.ntmps19
      go_wp2_with fail
      refine (CN.out _).mono ?_
      rintro e w1 ⟨rfl, hb1⟩
      have HB1 : Hid (Below w.heap.size w w1) := Lib.hid hb1
      have HS1 : Hid (w.heap.size ≤ w1.heap.size) := Lib.hid hb1.size
      have hs1 := hb1.size
      have hlk := HLK.out w1 hb1
      have y1 := (HB1.out.cell (p := ⟨g, 0, none⟩) hglt).trans y0
      clear hb1
      go_wp2_with fail
      go_ret
      exact ⟨rfl, HV.out _ HB1.out, But.of_below HB1.out⟩
    | false =>
      rw [show unsetR l (L nm) = (putL l (L nm) d0, 0) from HR.out]
      clear HR
      go_enter Tryz.func19, Tryz.ntmps19
      go_wp2_with fail
      refine (CN.out _).mono ?_
      rintro e w1 ⟨rfl, hb1⟩
      have HB1 : Hid (Below w.heap.size w w1) := Lib.hid hb1
      have HS1 : Hid (w.heap.size ≤ w1.heap.size) := Lib.hid hb1.size
      have hs1 := hb1.size
      have hlk := HLK.out w1 hb1
      have y1 := (HB1.out.cell (p := ⟨g, 0, none⟩) hglt).trans y0
      clear hb1
      obtain ⟨q1, q2, q3, q4, q5, q6, q7, q8⟩ := Q.out
      obtain ⟨w6, hr6, hm6, hg6⟩ := (q5.below HB1.out).drop Tryz.underlying41 nm (by unfold maxLen; have := H1.out; omega) 0
      have HG6 := Lib.hid hg6
      have HM6 := Lib.hid hm6
      clear q1 q2 q3 q4 q5 q6 q7 q8 hm6 hg6
      go_wp2_with fail
      go_ret
      obtain ⟨q1, q2, q3, q4, q5, q6, q7, q8⟩ := Q.out
      exact ⟨rfl, ⟨_, q1, q2, (q3.below HB1.out q3.lt).grown HG6.out (fun e => q1.2.2 (Option.some.inj e)), World.ownsRow.kept (q4.below HB1.out) HG6.out (.inr q2.2), HM6.out.mono (Nat.le_succ _), q6.drop (L nm), put_rising q7 _ _, q8.put HIS.out H1.out (Nat.zero_le _)⟩, (But.of_below HB1.out).grownM HG6.out⟩
end
end Go.Proofs.YthfnkgofkdahfaaGreatDoor
