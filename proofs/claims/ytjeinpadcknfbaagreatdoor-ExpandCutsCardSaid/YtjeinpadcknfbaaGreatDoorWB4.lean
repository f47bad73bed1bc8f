/-
  A set behind its bracket: the walk.
-/
import Derived.Test.YtjeinpadcknfbaaGreatDoorWB3
import Derived.Maps.RangeWalk
import Derived.StringKeys
import Derived.RegionTactic
import Derived.Deep.QuietTactic
import Derived.BigQuiet
import Derived.Lib.Atoi
import Derived.Lib.ItoaMem
import Derived.Lib.Join
import Derived.Test.YtjeinpadcknfbaaGreatDoorWB1
set_option linter.unusedVariables false
set_option linter.unusedSimpArgs false
/-
  Ranging over a map from strings; an entry taken away.
-/
namespace Go.Proofs.YtjeinpadcknfbaaGreatDoor
open Go.RowKit Go.ChangeMaps

/-- A range over the map in block b is under way, its iterator in block r: what is left. -/
def MapR (w : World) (b r n : Nat) (m : List UInt8 → Option Value) (left : List UInt8 → Bool) (cnt : Nat) : Prop :=
  ∃ (D : DataW Value) (lf : Lit → Bool), w.ranges Tryz.prog 9 RV b r n D lf cnt ∧ (∀ (t : List UInt8) (z : DataW Value), D.atKey (.string t) z = match m t with | some v => .held v | none => z) ∧ ∀ t, left t = lf (.string t)
section
variable {w w' : World} {b r n cnt : Nat} {m : List UInt8 → Option Value} {left : List UInt8 → Bool}
theorem MapR.owns (h : MapR w b r n m left cnt) : MapS w b n m := by
  obtain ⟨D, lf, h1, h2, _⟩ := h
  exact ⟨D, h1.owns, h2⟩
theorem MapR.left_eq (h : MapR w b r n m left cnt) : w.rangeLeft b r = cnt := by
  obtain ⟨D, lf, h1, _⟩ := h
  exact h1.left_eq
theorem MapR.lt (h : MapR w b r n m left cnt) : r < w.heap.size := by
  obtain ⟨D, lf, h1, _⟩ := h
  exact h1.lt
theorem MapR.ne (h : MapR w b r n m left cnt) : r ≠ b := by
  obtain ⟨D, lf, h1, _⟩ := h
  exact h1.ne
theorem MapR.kept {row : Option Nat} (h : MapR w b r n m left cnt) (hg : w.grownBy w' row) (hb : some b ≠ row) (hr : some r ≠ row) : MapR w' b r n m left cnt := by
  obtain ⟨D, lf, h1, h2, h3⟩ := h
  exact ⟨D, lf, h1.kept hg hb hr, h2, h3⟩
theorem sameKey_str (s t : List UInt8) : (Lit.string t).sameKey (.string s) = decide (t = s) := by
  by_cases e : t = s
  · subst e
    rw [decide_eq_true rfl]
    exact WideAt.sameKey_self (by simp [WideAt.IsKeyLit])
  · rw [decide_eq_false e]
    cases hs : (Lit.string t).sameKey (.string s) with
    | false => rfl
    | true => exact absurd (Lit.string.inj (WideAt.sameKey_eq hs)) e

section
variable {ops : Array Oper} {rest : List Oper} {o : Oper} {a : Act} {Q : Exit → Act → World → Prop}
/-- range m -/
theorem wpList_range_s (hg : o.guard = none) (x : Operand) (T : TypeId) (hop : o.op = Op.range T x) {e : TypeId} (ht : Tryz.prog.underlying T = some (.map 9 e)) (hm : a.eval x = .map (some b)) (hown : MapS w b n m)
    (hK : ∀ w' cnt, MapR w' b w.heap.size n m (fun t => (m t).isSome) cnt → cnt ≤ n → w.grownBy w' none → w'.heap.size = w.heap.size + 1 → wpList Tryz.prog ops Q rest (a.put o.dst (.pointer (some ⟨w.heap.size, 0, none⟩))) w') :
    wpList Tryz.prog ops Q (o :: rest) a w := by
  obtain ⟨D, h1, h2⟩ := hown
  refine wpList_range_own w hg x T hop 9 e (Maps.string_keyed Tryz.underlying9) ht RV b n D hm h1 fun w' h3 h4 h5 => ?_
  exact hK w' _ ⟨D, _, h3, h2, fun t => (hasKey_of h2 t).symm⟩ h1.size_le h4 h5
/-- The step. -/
theorem wpList_next_s (hg : o.guard = none) (it : Operand) (hop : o.op = Op.next it false) (hit : a.eval it = .pointer (some ⟨r, 0, none⟩)) (h : MapR w b r n m left cnt)
    (hDone : cnt = 0 → (∀ t, left t = false) → wpList Tryz.prog ops Q rest (a.put o.dst (.tuple #[.bool false])) w)
    (hMore : ∀ (s : ByteArray) (u : Value) (w' : World) (cnt' : Nat), s.size ≤ maxLen → left (L s) = true → m (L s) = some u → MapR w' b r n m (fun t => left t && !decide (t = L s)) cnt' → cnt' < cnt →
      w.grownBy w' (some r) → w'.heap.size = w.heap.size → (Instr.entry (.pointer (some ⟨r, 0, none⟩))).run Tryz.prog w' = .ok (.tuple #[.string s, u]) w' → wpList Tryz.prog ops Q rest (a.put o.dst (.tuple #[.bool true, .string s, u])) w') :
    wpList Tryz.prog ops Q (o :: rest) a w := by
  obtain ⟨D, lf, h1, h2, h3⟩ := h
  refine wpList_next_ranges w hg it hop 9 (Maps.string_keyed Tryz.underlying9) RV Value.string id (fun key kl hk => ?_) (fun v y _ => ⟨v, rfl⟩) b r n D lf cnt hit h1 (fun h0 hl => hDone h0 fun t => by rw [h3, hl]) fun s u kl y w' cnt' hk hlk hR hat hrg hlt hgr hsz hen => ?_
  · obtain ⟨s, e, _⟩ := WideMaps.string_of_keyOf Tryz.underlying9 hk
    exact ⟨s, e⟩
  · obtain ⟨s', e1, e2, hz⟩ := WideMaps.string_of_keyOf Tryz.underlying9 hk
    cases e1
    subst e2
    have hu : m (L s) = some u := by
      have h4 := hat (.lit (.int .i64 0))
      simp only [RV, id_eq, Option.some.injEq] at hR
      rw [← hR] at h4
      have h5 := h2 (L s) (.lit (.int .i64 0))
      rw [L] at h5 ⊢
      rw [h4] at h5
      cases hm : m s.data.toList with
      | none => rw [hm] at h5; cases h5
      | some v => rw [hm] at h5; simp only [DataW.held.injEq] at h5; rw [h5]
    exact hMore s u w' cnt' hz (by rw [h3]; exact hlk) hu ⟨D, _, hrg, h2, fun t => by show (left t && !decide (t = L s)) = _; rw [h3, sameKey_str]; rfl⟩ hlt hgr hsz hen
end

/-- delete(m, s) -/
theorem MapS.drop (h : MapS w b n m) {T e : TypeId} (ht : Tryz.prog.underlying T = some (.map 9 e)) (s : ByteArray) (hs : s.size ≤ maxLen) (ty : TypeId) :
    ∃ w', (Builtin.delete_ #[T, 9] ty #[.map (some b), .string s]).run Tryz.prog w = .ok (.tuple #[]) w' ∧ MapS w' b n (fun t => if t = L s then none else m t) ∧ w.grownBy w' (some b) := by
  obtain ⟨D, h1, h2⟩ := h
  obtain ⟨w', hr, h3, h4⟩ := h1.drop (Maps.string_keyed Tryz.underlying9) ht (WideMaps.keyOf_string_mk Tryz.underlying9 hs) ty
  refine ⟨w', hr, ⟨_, h3, fun t z => ?_⟩, ?_⟩
  rotate_left
  · exact h4.grown
  show _ = match (if t = L s then none else m t) with | some v => DataW.held v | none => z
  by_cases e : t = L s
  · subst e
    rw [if_pos rfl]
    exact Maps.atKey_del_same z
  · rw [if_neg e, Maps.atKey_del_other (by intro h'; injection h' with h'; exact e h'), h2]
    cases m t <;> rfl
end
end Go.Proofs.YtjeinpadcknfbaaGreatDoor
/-
  The walks of Set, Unset, Export, Fix.
-/
namespace Go.Proofs.YtjeinpadcknfbaaGreatDoor
open Go.RowKit

/-- What Set, Unset, Export and Fix make of variables, and what they return. -/
def setR (l : List (Nm × Xd)) (k t : Nm) : List (Nm × Xd) × Int :=
  if nameL k then (if (find l k).fix then (l, 19) else (putL l k ⟨t, true, (find l k).exp, (find l k).fix⟩, 0)) else (l, 11)
def unsetR (l : List (Nm × Xd)) (k : Nm) : List (Nm × Xd) × Int :=
  if nameL k then (if (find l k).fix then (l, 19) else (putL l k d0, 0)) else (l, 11)
def expR (l : List (Nm × Xd)) (k : Nm) : List (Nm × Xd) × Int :=
  if nameL k then (putL l k ⟨(find l k).text, (find l k).set, true, (find l k).fix⟩, 0) else (l, 11)
def fixR (l : List (Nm × Xd)) (k : Nm) : List (Nm × Xd) × Int :=
  if nameL k then (putL l k ⟨(find l k).text, (find l k).set, (find l k).exp, true⟩, 0) else (l, 11)

theorem zeroVX (w : World) : (zeroValue 55).run Tryz.prog w = .ok (VX d0) w := by kernel_rfl
/-- A variable's value, looked up. -/
theorem look_var {w : World} {mb n : Nat} {m : List UInt8 → Option Value} {l : List (Nm × Xd)} (h : MapS w mb n m) (hr : MRel m l) (s : ByteArray) (hs : s.size ≤ maxLen) :
    (Instr.lookup 48 (.map (some mb)) (.string s) false).run Tryz.prog w = .ok (VX (find l (L s))) w := by
  rw [h.look Tryz.underlying48 (zeroVX w) s hs, hr.get]

theorem field3 (a : ByteArray) (s e f : Bool) (W : World) : (Instr.field 55 (.agg #[.string a, .bool s, .bool e, .bool f]) 3).run Tryz.prog W = .ok (.bool f) W := by kernel_rfl
/-- What a call that fills an entry leaves. -/
theorem VS.filled {w w1 w' : World} {lo g mb n : Nat} {l : List (Nm × Xd)} {xs : List ByteArray} {st : Int} {v : Value} {m : List UInt8 → Option Value} {k : Nm} {x : Xd}
    (q1 : lo ≤ g ∧ lo ≤ mb ∧ mb ≠ g) (q2 : v.ownBlock ≠ some g ∧ v.ownBlock ≠ some mb) (q3 : Blk w g 51 #[.map (some mb), .string ⟨#[115, 104]⟩, v, .int .i64 st]) (q4 : OwnS w lo v xs) (q6 : MRel m l) (q7 : Rising l) (q8 : Good l)
    (hb : Below w.heap.size w w1) (hg : w1.grownBy w' (some mb)) (hm : MapS w' mb (n + 1) (fun t => if t = k then some (VX x) else m t)) (hk : nameL k = true) (h1 : k.length ≤ 1048576) (h2 : x.text.length ≤ 1048576) :
    VS v w' lo g mb (n + 1) (putL l k x) xs st ∧ But g mb w w' :=
  ⟨⟨_, q1, q2, (q3.below hb q3.lt).grown hg (fun e => q1.2.2 (Option.some.inj e)), World.ownsRow.kept (q4.below hb) hg (.inr q2.2), hm, q6.put k x, put_rising q7 k x, q8.put hk h1 h2⟩, (But.of_below hb).grownM hg⟩

section
variable {v : Value} {lo g mb n : Nat} {l : List (Nm × Xd)} {xs : List ByteArray} {st : Int}
set_option maxHeartbeats 2000000 in
theorem vset_any (nm tx : ByteArray) (w : World) (hV : VS v w lo g mb n l xs st) (hn : n ≤ 1000) (h1 : nm.size ≤ 1048576) (h2 : tx.size ≤ 1048576) :
    Calls Tryz.prog 81 #[.pointer (some ⟨g, 0, none⟩), .string nm, .string tx] w fun e w' => e = .returned (.int .i64 (setR l (L nm) (L tx)).2) ∧ VS v w' lo g mb (n + 1) (setR l (L nm) (L tx)).1 xs st ∧ But g mb w w' := by
  obtain ⟨m, q1, q2, q3, q4, q5, q6, q7, q8⟩ := hV
  obtain ⟨⟨t0, s0, e0, f0⟩, hx⟩ : ∃ x, find l (L nm) = x := ⟨_, rfl⟩
  have hft : t0.length ≤ 1048576 := by have := q8.find (L nm); rwa [hx] at this
  have hnm : nm.size ≤ maxLen := by unfold maxLen; omega
  have CN : Hid (∀ W, Calls Tryz.prog 15 #[.string nm] W fun e w' => e = .returned (.bool (nameL (L nm))) ∧ Below W.heap.size W w') := Lib.hid fun W => name_any nm W hnm
  obtain ⟨isn, hisn⟩ : ∃ b, nameL (L nm) = b := ⟨_, rfl⟩
  have HIS := Lib.hid hisn
  have hglt : g < w.heap.size := q3.lt
  have HLK : Hid (∀ W, Below w.heap.size w W → (Instr.lookup 48 (.map (some mb)) (.string nm) false).run Tryz.prog W = .ok (.agg #[.string ⟨t0.toArray⟩, .bool s0, .bool e0, .bool f0]) W) := Lib.hid fun W hW => by
    rw [look_var (q5.below hW) q6 nm hnm, hx]; rfl
  have Q := Lib.hid (And.intro q1 (And.intro q2 (And.intro q3 (And.intro q4 (And.intro q5 (And.intro q6 (And.intro q7 q8)))))))
  rw [hisn] at CN
  have y0 := q3.cell 0
  simp at y0
  have HF := Lib.hid hft
  have H1 := Lib.hid h1
  clear hft h1 hnm
  have hlk := HLK.out w (Below.refl _ _)
  have HR : Hid (setR l (L nm) (L tx) = if isn then (if f0 then (l, 19) else (putL l (L nm) ⟨L tx, true, e0, f0⟩, 0)) else (l, 11)) := Lib.hid (by rw [setR, hx, hisn])
  have HV : Hid (∀ W, Below w.heap.size w W → VS v W lo g mb (n + 1) l xs st) := Lib.hid fun W hW => (VS.below ⟨m, q1, q2, q3, q4, q5, q6, q7, q8⟩ hW).mono (Nat.le_succ _)
  clear hx hisn q1 q2 q3 q4 q5 q6 q7 q8
  have H2 := Lib.hid h2
  clear h2
  cases isn with
  | false =>
    rw [show setR l (L nm) (L tx) = (l, 11) from HR.out]
    clear HR
    go_enter Tryz.func81, Tryz.ntmps81
    go_wp2_with fail
    refine (CN.out _).mono ?_
    rintro e w1 ⟨rfl, hb1⟩
    have HB1 : Hid (Below w.heap.size w w1) := Lib.hid (((Below.refl _ _).alloc (Nat.le_refl _) _).trans (hb1.mono (by simp)))
    have z := (Blk.new w 55 #[.string ⟨t0.toArray⟩, .bool s0, .bool e0, .bool f0]).below hb1 (by simp)
    have Z := Lib.hid z
    have HS1 : Hid (w.heap.size < w1.heap.size) := Lib.hid (by have := hb1.size; simp at this; omega)
    have b0 := z.cell 0
    have b1 := z.cell 1
    have b2 := z.cell 2
    have b3 := z.cell 3
    have r0 := z.free 0
    have r1 := z.free 1
    have r2 := z.free 2
    have r3 := z.free 3
    simp at b0 b1 b2 b3
    have y1 := (HB1.out.cell (p := ⟨g, 0, none⟩) hglt).trans y0
    clear hb1 z
    go_wp2_with fail
    go_ret
    exact ⟨rfl, HV.out _ HB1.out, But.of_below HB1.out⟩
  | true =>
    cases f0 with
    | true =>
      rw [show setR l (L nm) (L tx) = (l, 19) from HR.out]
      clear HR
      go_enter Tryz.func81, Tryz.ntmps81
      go_wp2_with fail
      refine (CN.out _).mono ?_
      rintro e w1 ⟨rfl, hb1⟩
      have HB1 : Hid (Below w.heap.size w w1) := Lib.hid (((Below.refl _ _).alloc (Nat.le_refl _) _).trans (hb1.mono (by simp)))
      have z := (Blk.new w 55 #[.string ⟨t0.toArray⟩, .bool s0, .bool e0, .bool true]).below hb1 (by simp)
      have Z := Lib.hid z
      have HS1 : Hid (w.heap.size < w1.heap.size) := Lib.hid (by have := hb1.size; simp at this; omega)
      have b0 := z.cell 0
      have b1 := z.cell 1
      have b2 := z.cell 2
      have b3 := z.cell 3
      have r0 := z.free 0
      have r1 := z.free 1
      have r2 := z.free 2
      have r3 := z.free 3
      simp at b0 b1 b2 b3
      have y1 := (HB1.out.cell (p := ⟨g, 0, none⟩) hglt).trans y0
      clear hb1 z
      go_wp2_with fail
      go_ret
      exact ⟨rfl, HV.out _ HB1.out, But.of_below HB1.out⟩
    | false =>
      rw [show setR l (L nm) (L tx) = (putL l (L nm) ⟨L tx, true, e0, false⟩, 0) from HR.out]
      clear HR
      go_enter Tryz.func81, Tryz.ntmps81
      go_wp2_with fail
      refine (CN.out _).mono ?_
      rintro e w1 ⟨rfl, hb1⟩
      have HB1 : Hid (Below w.heap.size w w1) := Lib.hid (((Below.refl _ _).alloc (Nat.le_refl _) _).trans (hb1.mono (by simp)))
      have z := (Blk.new w 55 #[.string ⟨t0.toArray⟩, .bool s0, .bool e0, .bool false]).below hb1 (by simp)
      have Z := Lib.hid z
      have HS1 : Hid (w.heap.size < w1.heap.size) := Lib.hid (by have := hb1.size; simp at this; omega)
      have b0 := z.cell 0
      have b1 := z.cell 1
      have b2 := z.cell 2
      have b3 := z.cell 3
      have r0 := z.free 0
      have r1 := z.free 1
      have r2 := z.free 2
      have r3 := z.free 3
      simp at b0 b1 b2 b3
      have y1 := (HB1.out.cell (p := ⟨g, 0, none⟩) hglt).trans y0
      clear hb1 z
      go_wp2_with fail
      obtain ⟨w5, hw5⟩ : ∃ W, W = (w1.setCell ⟨w.heap.size, 0, none⟩ (.string tx)).setCell ⟨w.heap.size, 1, none⟩ (.bool true) := ⟨_, rfl⟩
      have Z5 : Blk w5 w.heap.size 55 #[.string tx, .bool true, .bool e0, .bool false] := by rw [hw5]; exact (Z.out.put 0 (.string tx)).put 1 (.bool true)
      have HB5 : Hid (Below w.heap.size w w5) := Lib.hid (by rw [hw5]; exact (HB1.out.setCell (p := ⟨w.heap.size, 0, none⟩) (Nat.le_refl _) _).setCell (p := ⟨w.heap.size, 1, none⟩) (Nat.le_refl _) _)
      rw [← hw5]
      have c0 := Z5.cell 0
      have c1 := Z5.cell 1
      have c2 := Z5.cell 2
      have c3 := Z5.cell 3
      simp at c0 c1 c2 c3
      have y5 := (HB5.out.cell (p := ⟨g, 0, none⟩) hglt).trans y0
      obtain ⟨q1, q2, q3, q4, q5, q6, q7, q8⟩ := Q.out
      have HM5 := Lib.hid (q5.below HB5.out)
      clear hw5 Z5 b0 b1 b2 b3 r0 r1 r2 r3 y1 q1 q2 q3 q4 q5 q6 q7 q8 hlk
      have hnm : nm.size ≤ maxLen := by unfold maxLen; have := H1.out; omega
      obtain ⟨w6, hr6, hm6, hg6⟩ := (show MapS w5.drew mb n m from HM5.out.below (Below.drew (Below.refl _ _))).put_run Tryz.underlying48 (by unfold maxLen; omega) nm (.agg #[.string tx, .bool true, .bool e0, .bool false]) hnm
      have HG6 : Hid (w5.grownBy w6 (some mb)) := Lib.hid ⟨hg6.os, hg6.tape, hg6.output, hg6.size, hg6.block⟩
      have HM6 := Lib.hid hm6
      clear hm6 hg6
      go_region
      clear hr6 c0 c1 c2 c3
      go_wp2_with fail
      go_ret
      obtain ⟨q1, q2, q3, q4, q5, q6, q7, q8⟩ := Q.out
      exact ⟨rfl, VS.filled (x := ⟨L tx, true, e0, false⟩) q1 q2 q3 q4 q6 q7 q8 HB5.out HG6.out HM6.out HIS.out H1.out H2.out⟩

end
end Go.Proofs.YtjeinpadcknfbaaGreatDoor
/-
  The walks of Get, Fixed, Status, Args, Split: the program's, and the document's Split.
-/
namespace Go.Proofs.YtjeinpadcknfbaaGreatDoor
open Go.RowKit

section
variable {lo g mb n : Nat} {l : List (Nm × Xd)} {xs : List ByteArray} {st : Int}
set_option maxHeartbeats 1000000 in
theorem vget_any (nm : ByteArray) (w : World) (hV : VSt w lo g mb n l xs st) (hnm : nm.size ≤ maxLen) :
    Calls Tryz.prog 11 #[.pointer (some ⟨g, 0, none⟩), .string nm] w fun e w' => e = .returned (.tuple #[.string ⟨(find l (L nm)).text.toArray⟩, .bool (find l (L nm)).set]) ∧ Below w.heap.size w w' := by
  obtain ⟨v, m, q1, q2, q3, q4, q5, q6, q7, q8⟩ := hV
  obtain ⟨⟨t0, s0, e0, f0⟩, hx⟩ : ∃ x, find l (L nm) = x := ⟨_, rfl⟩
  have hlk : (Instr.lookup 48 (.map (some mb)) (.string nm) false).run Tryz.prog w = .ok (.agg #[.string ⟨t0.toArray⟩, .bool s0, .bool e0, .bool f0]) w := by
    rw [look_var q5 q6 nm hnm, hx]; rfl
  have y0 := q3.cell 0
  simp at y0
  have hlg := q3.lt
  rw [hx]
  clear hx q1 q2 q3 q4 q5 q6 q7 q8
  go_enter Tryz.func11, Tryz.ntmps11
  go_wp2_with fail
  go_quiet (fail)
  go_wp2_with fail
  go_ret2
  exact ⟨rfl, below_drewN ((Below.refl _ _).alloc (Nat.le_refl _) _) nq⟩
theorem vargs_any (w : World) (hV : VSt w lo g mb n l xs st) (hx : xs.length ≤ 1000) :
    Calls Tryz.prog 49 #[.pointer (some ⟨g, 0, none⟩)] w fun e w' => ∃ a c, e = .returned (.slice a xs.length c) ∧ Elems w' w'.heap.size a xs.length (xs.map .string) ∧ Below w.heap.size w w' := by
  obtain ⟨v, m, q1, q2, q3, q4, q5, q6⟩ := hV
  obtain ⟨a, c, rfl, hE⟩ := q4.elems (by unfold maxLen; omega)
  have CC : Hid (Calls Tryz.prog 13 #[.slice a xs.length c] w fun e w' => ∃ v', e = .returned v' ∧ OwnS w' w.heap.size v' xs ∧ Below w.heap.size w w') := Lib.hid (clone_any a _ c xs w _ hE hx)
  have y2 := q3.cell 2
  simp at y2
  clear q1 q2 q3 q4 q5 q6 hE
  go_enter Tryz.func49, Tryz.ntmps49
  go_wp2_with fail
  refine CC.out.mono ?_
  rintro e w1 ⟨v', rfl, ho, hb1⟩
  obtain ⟨a', c', rfl, hE'⟩ := ho.elems (by unfold maxLen; omega)
  go_wp2
  go_ret
  exact ⟨_, _, rfl, hE', hb1⟩
def ifs : Nm := [73, 70, 83]
/-- Where fields are split. -/
def splitL (l : List (Nm × Xd)) : Nm := if (find l ifs).set then (find l ifs).text else [32, 9, 10]
set_option maxHeartbeats 1000000 in
theorem vsplit_any (w : World) (hV : VSt w lo g mb n l xs st) :
    Calls Tryz.prog 23 #[.pointer (some ⟨g, 0, none⟩)] w fun e w' => e = .returned (.string ⟨(splitL l).toArray⟩) ∧ Below w.heap.size w w' := by
  have CG : Hid (Calls Tryz.prog 11 #[.pointer (some ⟨g, 0, none⟩), .string ⟨#[73, 70, 83]⟩] w fun e w' => e = .returned (.tuple #[.string ⟨(find l ifs).text.toArray⟩, .bool (find l ifs).set]) ∧ Below w.heap.size w w') := Lib.hid (vget_any ⟨#[73, 70, 83]⟩ w hV (by unfold maxLen; decide))
  obtain ⟨⟨t0, s0, e0, f0⟩, hx⟩ : ∃ x, find l ifs = x := ⟨_, rfl⟩
  have HS : Hid (splitL l = if s0 then t0 else [32, 9, 10]) := Lib.hid (by rw [splitL, hx])
  rw [hx] at CG
  simp only at CG
  clear hx hV
  cases s0
  · rw [show splitL l = [32, 9, 10] from HS.out]
    clear HS
    go_enter Tryz.func23, Tryz.ntmps23
    go_wp2_with fail
    refine CG.out.mono ?_
    rintro e w1 ⟨rfl, hb1⟩
    have HB1 := Lib.hid hb1
    clear hb1
    go_wp2_with fail
    go_ret
    exact ⟨rfl, HB1.out⟩
  · rw [show splitL l = t0 from HS.out]
    clear HS
    go_enter Tryz.func23, Tryz.ntmps23
    go_wp2_with fail
    refine CG.out.mono ?_
    rintro e w1 ⟨rfl, hb1⟩
    have HB1 := Lib.hid hb1
    clear hb1
    go_wp2_with fail
    go_ret
    exact ⟨rfl, HB1.out⟩
end
section
variable {lo B : Nat} {V : Value} {l : List (Nm × Xd)} {xs : List ByteArray} {st : Int}
end
end Go.Proofs.YtjeinpadcknfbaaGreatDoor
/-
  Plain: digits of numbers; what a parameter is.
-/
namespace Go.Proofs.YtjeinpadcknfbaaGreatDoor
open Go.RowKit

def valN (s : Nm) : Nat := s.foldl (fun v c => v * 10 + (c.toNat - 48)) 0
theorem val_snoc (r : Nm) (c : UInt8) : valN (r ++ [c]) = valN r * 10 + (c.toNat - 48) := by rw [valN, List.foldl_append]; rfl
theorem dig_nat {c : UInt8} (h : digB c = true) : 48 ≤ c.toNat ∧ c.toNat ≤ 57 := (digB_iff c).1 h
theorem ofNat_dig {c : UInt8} (h : digB c = true) : UInt8.ofNat (48 + (c.toNat - 48)) = c := by
  have := dig_nat h
  rw [show 48 + (c.toNat - 48) = c.toNat by omega]
  exact UInt8.ofNat_toNat
theorem val_dec (n : Nat) : valN (Lib.decDigits n) = n := by
  induction n using Nat.strongRecOn with
  | ind n ih =>
    rw [Lib.decDigits]
    split
    · rename_i h
      show 0 * 10 + ((UInt8.ofNat (48 + n)).toNat - 48) = n
      rw [UInt8.toNat_ofNat_of_lt' (by show 48 + n < 256; omega)]
      omega
    · rename_i h
      rw [val_snoc, ih (n / 10) (by omega), UInt8.toNat_ofNat_of_lt' (by show 48 + n % 10 < 256; omega)]
      omega
theorem dec_inj {a b : Nat} (h : Lib.decDigits a = Lib.decDigits b) : a = b := by rw [← val_dec a, h, val_dec]
theorem dec_val : ∀ (n : Nat) (s : Nm), s.length = n → (∀ c ∈ s, digB c = true) → s ≠ [] → s.getD 0 0 ≠ 48 → Lib.decDigits (valN s) = s ∧ 1 ≤ valN s
  | 0, s, h, _, hne, _ => absurd (List.length_eq_zero_iff.1 h) hne
  | n + 1, s, h, hd, hne, h0 => by
    rw [← List.dropLast_concat_getLast hne] at h hd h0 ⊢
    obtain ⟨r, hr⟩ : ∃ r, s.dropLast = r := ⟨_, rfl⟩
    obtain ⟨c, hc⟩ : ∃ c, s.getLast hne = c := ⟨_, rfl⟩
    rw [hr, hc] at h hd h0 ⊢
    have hdc := hd c (by simp)
    have hcn := dig_nat hdc
    rw [val_snoc]
    by_cases hr0 : r = []
    · subst hr0
      have hv : valN [] = 0 := rfl
      have hc48 : c.toNat ≠ 48 := fun e => h0 (by show c = 48; exact UInt8.toNat_inj.1 (by rw [e]; rfl))
      rw [hv, Nat.zero_mul, Nat.zero_add, Lib.decDigits, dif_pos (by omega), ofNat_dig hdc]
      exact ⟨rfl, by omega⟩
    · have hlr : r.length = n := by rw [List.length_append] at h; simpa using h
      have h0' : r.getD 0 0 ≠ 48 := by
        cases r with
        | nil => exact absurd rfl hr0
        | cons x r => simpa using h0
      obtain ⟨e1, e2⟩ := dec_val n r hlr (fun x hx => hd x (by simp [hx])) hr0 h0'
      have hlt : c.toNat - 48 < 10 := by omega
      rw [Lib.decDigits, dif_neg (by omega), show (valN r * 10 + (c.toNat - 48)) / 10 = valN r by omega, show (valN r * 10 + (c.toNat - 48)) % 10 = c.toNat - 48 by omega, e1, ofNat_dig hdc]
      exact ⟨rfl, by omega⟩
theorem digs_mem {s : Nm} (h : digsB s = true) : ∀ c ∈ s, digB c = true := by
  intro c hc
  obtain ⟨i, hi, e⟩ := List.getElem_of_mem hc
  rw [digsB, List.all_eq_true] at h
  have := h i (List.mem_range.2 hi)
  rwa [List.getD_eq_getElem?_getD, List.getElem?_eq_getElem hi, Option.getD_some, e] at this
/-- A number's text, but "0". -/
theorem num_split {s : Nm} (h : numB s = true) (h0 : s ≠ [48]) : (∀ c ∈ s, digB c = true) ∧ s ≠ [] ∧ s.getD 0 0 ≠ 48 ∧ s.length ≤ 4 := by
  simp only [numB, Bool.and_eq_true, Bool.or_eq_true, beq_iff_eq, Bool.not_eq_true', bne_iff_ne, decide_eq_true_eq] at h
  obtain ⟨h1, h2 | ⟨h2, h3, h4⟩⟩ := h
  · exact absurd h2 h0
  · exact ⟨digs_mem h1, fun e => by subst e; simp at h2, h3, h4⟩
theorem decFrom_digs : ∀ (s : Nm) (a : Nat), (∀ c ∈ s, digB c = true) → Lib.decFrom a s = some (s.foldl (fun v c => v * 10 + (c.toNat - 48)) a)
  | [], _, _ => rfl
  | c :: s, a, h => by
    have hc := dig_nat (h c (by simp))
    have hv : Lib.digitVal c = some (c.toNat - 48) := by
      unfold Lib.digitVal
      rw [if_pos hc]
    rw [Lib.decFrom, hv]
    exact decFrom_digs s _ fun x hx => h x (by simp [hx])
theorem atoi_digs {s : Nm} (h : ∀ c ∈ s, digB c = true) (hne : s ≠ []) : Lib.atoi s = some (valN s : Int) := by
  cases s with
  | nil => exact absurd rfl hne
  | cons c s =>
    have hc := dig_nat (h c (by simp))
    have h1 : (c == 45) = false := by simpa using fun e => by rw [e] at hc; exact absurd hc.1 (by decide)
    have h2 : (c == 43) = false := by simpa using fun e => by rw [e] at hc; exact absurd hc.1 (by decide)
    rw [Lib.atoi, h1, h2]
    simp only [Bool.false_eq_true, if_false]
    have h3 : Lib.decNat (c :: s) = some (valN (c :: s)) := by
      rw [Lib.decNat]
      simp only [List.isEmpty_cons, Bool.false_eq_true, if_false]
      exact decFrom_digs _ _ h
    rw [h3]
    rfl
theorem name_not_digs {s : Nm} (h : nameL s = true) : ∀ c r, s = c :: r → digB c = false := by
  intro c r e
  subst e
  have h1 : nmB true c = true := by
    simp only [nameL, Bool.and_eq_true] at h
    have := List.all_eq_true.1 h.2 0 (List.mem_range.2 (by simp))
    simpa using this
  rw [nmB_iff] at h1
  cases hd : digB c with
  | false => rfl
  | true =>
    have := dig_nat hd
    rcases h1 with (h1 | h1) | h1 | ⟨h1, _⟩
    · omega
    · omega
    · omega
    · cases h1

def shN : Nm := [115, 104]
/-- What a parameter is. -/
def paramL (l : List (Nm × Xd)) (xs : List Nm) (st : Int) (s : Nm) : Nm × Bool :=
  if s = [48] then (shN, true) else if s = [35] then (Lib.decDigits xs.length, true) else if s = [63] then (Lib.itoa st, true) else if s = [36] then ([49], true)
  else if s = [45] then ([], true) else if s = [33] then ([], false) else if s = [64] ∨ s = [42] then (Lib.join xs [32], decide (0 < xs.length))
  else if numB s then (if valN s ≤ xs.length then (xs.getD (valN s - 1) [], true) else ([], false))
  else ((find l s).text, (find l s).set)
def OkP (s : Nm) : Prop := nameL s = true ∨ numB s = true ∨ specB s = true
/-- None of the signs, and not "0". -/
def Plain (s : Nm) : Prop := s ≠ [48] ∧ s ≠ [35] ∧ s ≠ [63] ∧ s ≠ [36] ∧ s ≠ [45] ∧ s ≠ [33] ∧ s ≠ [64] ∧ s ≠ [42]
theorem param_plain {l : List (Nm × Xd)} {xs : List Nm} {st : Int} {s : Nm} (h : Plain s) : paramL l xs st s = if numB s then (if valN s ≤ xs.length then (xs.getD (valN s - 1) [], true) else ([], false)) else ((find l s).text, (find l s).set) := by
  obtain ⟨h1, h2, h3, h4, h5, h6, h7, h8⟩ := h
  simp only [paramL, h1, h2, h3, h4, h5, h6, h7, h8, if_false, or_false]
theorem spec_signs {s : Nm} (h : specB s = true) : ¬ Plain s := by
  simp only [specB, Bool.and_eq_true, decide_eq_true_eq] at h
  obtain ⟨h1, h2⟩ := h
  match s, h1 with
  | [c], _ =>
    rw [hasB_mem] at h2
    have h3 : c ∈ [(64 : UInt8), 42, 35, 63, 45, 36, 33] := h2
    intro hp
    obtain ⟨_, p2, p3, p4, p5, p6, p7, p8⟩ := hp
    simp only [List.mem_cons, List.not_mem_nil, or_false] at h3
    rcases h3 with rfl | rfl | rfl | rfl | rfl | rfl | rfl
    · exact p7 rfl
    · exact p8 rfl
    · exact p2 rfl
    · exact p3 rfl
    · exact p5 rfl
    · exact p4 rfl
    · exact p6 rfl
theorem dec_head (n : Nat) : ∃ c r, Lib.decDigits n = c :: r ∧ digB c = true := by
  induction n using Nat.strongRecOn with
  | ind n ih =>
    rw [Lib.decDigits]
    split
    · rename_i h
      exact ⟨_, [], rfl, (digB_iff _).2 (by rw [UInt8.toNat_ofNat_of_lt' (by show 48 + n < 256; omega)]; omega)⟩
    · rename_i h
      obtain ⟨c, r, e, hc⟩ := ih (n / 10) (by omega)
      exact ⟨c, r ++ [UInt8.ofNat (48 + n % 10)], by rw [e]; rfl, hc⟩
/-- The document's search among the parameters: a hit. -/
theorem param_hit {l : List (Nm × Xd)} {xs : List Nm} {st : Int} {s : Nm} (hp : Plain s) (ho : OkP s) {k : Nat} (hk : k < xs.length) (h : s = Lib.decDigits (k + 1)) : paramL l xs st s = (xs.getD k [], true) := by
  obtain ⟨c, r, e, hc⟩ := dec_head (k + 1)
  have hn : numB s = true := by
    rcases ho with ho | ho | ho
    · have := name_not_digs ho c r (h.trans e)
      rw [hc] at this
      cases this
    · exact ho
    · exact absurd hp (spec_signs ho)
  have hv : valN s = k + 1 := by rw [h, val_dec]
  rw [param_plain hp, if_pos hn, if_pos (by omega), hv]
  rfl
/-- No hit. -/
theorem param_miss {l : List (Nm × Xd)} (hg : Good l) {xs : List Nm} {st : Int} {s : Nm} (hp : Plain s) (h : ∀ k, k < xs.length → s ≠ Lib.decDigits (k + 1)) : paramL l xs st s = ((find l s).text, (find l s).set) := by
  rw [param_plain hp]
  by_cases hn : numB s = true
  · obtain ⟨q1, q2, q3, q4⟩ := num_split hn hp.1
    obtain ⟨e1, e2⟩ := dec_val _ s rfl q1 q2 q3
    have hlt : ¬ valN s ≤ xs.length := fun hle => h (valN s - 1) (by omega) (by rw [show valN s - 1 + 1 = valN s by omega]; exact e1.symm)
    rw [if_pos hn, if_neg hlt]
    have hf : find l s = d0 := find_none l s fun p hpm e => by
      have h1 := (hg p hpm).1
      rw [e] at h1
      cases s with
      | nil => exact q2 rfl
      | cons c r =>
        have := name_not_digs h1 c r rfl
        rw [q1 c (by simp)] at this
        cases this
    rw [hf]
    rfl
  · rw [if_neg hn]
end Go.Proofs.YtjeinpadcknfbaaGreatDoor
/-
  Patterns, plain: signs, sets, parts, and which texts are a pattern's.
-/
namespace Go.Proofs.YtjeinpadcknfbaaGreatDoor
open Go.RowKit

/-- A byte, and whether it is quoted. -/
structure Sg where
  b : UInt8
  q : Bool
def isb (s : Sg) (b : UInt8) : Bool := !s.q && s.b == b
abbrev Span := UInt8 × UInt8
/-- A part of a pattern. -/
structure Pt where
  kind : UInt8
  b : UInt8
  neg : Bool
  set : List Span
def inSpan (c : UInt8) (s : Span) : Bool := decide (s.1 ≤ c) && decide (c ≤ s.2)
def fitsP (p : Pt) (c : UInt8) : Bool := if p.kind = 98 then p.b == c else if p.kind = 63 then true else if p.set.any (inSpan c) then !p.neg else p.neg

/-! ### names of bytes -/
def nmAlpha : List UInt8 := [97, 108, 112, 104, 97]
def nmDigit : List UInt8 := [100, 105, 103, 105, 116]
def nmAlnum : List UInt8 := [97, 108, 110, 117, 109]
def nmUpper : List UInt8 := [117, 112, 112, 101, 114]
def nmLower : List UInt8 := [108, 111, 119, 101, 114]
def nmSpace : List UInt8 := [115, 112, 97, 99, 101]
def nmBlank : List UInt8 := [98, 108, 97, 110, 107]
def nmPunct : List UInt8 := [112, 117, 110, 99, 116]
def nmXdigit : List UInt8 := [120, 100, 105, 103, 105, 116]
def nmCntrl : List UInt8 := [99, 110, 116, 114, 108]
def nmPrint : List UInt8 := [112, 114, 105, 110, 116]
def nmGraph : List UInt8 := [103, 114, 97, 112, 104]
def classL (n : List UInt8) : Option (List Span) :=
  if n = nmAlpha then some [(97, 122), (65, 90)] else if n = nmDigit then some [(48, 57)] else if n = nmAlnum then some [(97, 122), (65, 90), (48, 57)] else if n = nmUpper then some [(65, 90)] else
  if n = nmLower then some [(97, 122)] else if n = nmSpace then some [(9, 13), (32, 32)] else if n = nmBlank then some [(9, 9), (32, 32)] else if n = nmPunct then some [(33, 47), (58, 64), (91, 96), (123, 126)] else
  if n = nmXdigit then some [(48, 57), (97, 102), (65, 70)] else if n = nmCntrl then some [(0, 31), (127, 127)] else if n = nmPrint then some [(32, 126)] else if n = nmGraph then some [(33, 126)] else none

theorem classL_none {n : List UInt8} (h : classL n = none) : n ≠ nmAlpha ∧ n ≠ nmDigit ∧ n ≠ nmAlnum ∧ n ≠ nmUpper ∧ n ≠ nmLower ∧ n ≠ nmSpace ∧ n ≠ nmBlank ∧ n ≠ nmPunct ∧ n ≠ nmXdigit ∧ n ≠ nmCntrl ∧ n ≠ nmPrint ∧ n ≠ nmGraph := by
  unfold classL at h
  by_cases h0 : n = nmAlpha
  · rw [if_pos h0] at h; cases h
  rw [if_neg h0] at h
  by_cases h1 : n = nmDigit
  · rw [if_pos h1] at h; cases h
  rw [if_neg h1] at h
  by_cases h2 : n = nmAlnum
  · rw [if_pos h2] at h; cases h
  rw [if_neg h2] at h
  by_cases h3 : n = nmUpper
  · rw [if_pos h3] at h; cases h
  rw [if_neg h3] at h
  by_cases h4 : n = nmLower
  · rw [if_pos h4] at h; cases h
  rw [if_neg h4] at h
  by_cases h5 : n = nmSpace
  · rw [if_pos h5] at h; cases h
  rw [if_neg h5] at h
  by_cases h6 : n = nmBlank
  · rw [if_pos h6] at h; cases h
  rw [if_neg h6] at h
  by_cases h7 : n = nmPunct
  · rw [if_pos h7] at h; cases h
  rw [if_neg h7] at h
  by_cases h8 : n = nmXdigit
  · rw [if_pos h8] at h; cases h
  rw [if_neg h8] at h
  by_cases h9 : n = nmCntrl
  · rw [if_pos h9] at h; cases h
  rw [if_neg h9] at h
  by_cases h10 : n = nmPrint
  · rw [if_pos h10] at h; cases h
  rw [if_neg h10] at h
  by_cases h11 : n = nmGraph
  · rw [if_pos h11] at h; cases h
  rw [if_neg h11] at h
  exact ⟨h0, h1, h2, h3, h4, h5, h6, h7, h8, h9, h10, h11⟩

/-- What stands up to :] ; how many signs. -/
def nameS (name : List UInt8) (k : Nat) : List Sg → Option (List UInt8 × Nat)
  | a :: b :: l => if isb a 58 && isb b 93 then some (name, k + 2) else nameS (name ++ [a.b]) (k + 1) (b :: l)
  | _ => none
def namedS : List Sg → Option (List Span × Nat)
  | a :: b :: l => if isb a 91 && isb b 58 then match nameS [] 2 l with
    | some (n, k) => (classL n).map (·, k)
    | none => none else none
  | _ => none
theorem nameS_gt : ∀ (l : List Sg) (n : List UInt8) (k : Nat) (m : List UInt8) (j : Nat), nameS n k l = some (m, j) → k + 2 ≤ j ∧ j ≤ k + l.length
  | [], _, _, _, _, h => by cases h
  | [_], _, _, _, _, h => by cases h
  | a :: b :: l, n, k, m, j, h => by
    rw [nameS] at h
    split at h
    · cases h; simp
    · have := nameS_gt (b :: l) _ _ _ _ h
      simp at this ⊢; omega
theorem namedS_gt {l : List Sg} {sp : List Span} {k : Nat} (h : namedS l = some (sp, k)) : 4 ≤ k ∧ k ≤ l.length := by
  match l, h with
  | a :: b :: l, h =>
    rw [namedS] at h
    split at h
    · split at h
      · rename_i n k' h2
        obtain ⟨x, _, hx⟩ := Option.map_eq_some_iff.1 h
        cases hx
        have := nameS_gt _ _ _ _ _ h2
        simp; omega
      · cases h
    · cases h

/-- Is this the middle and the end of a range? -/
def rangeS : List Sg → Option UInt8
  | d :: x :: _ => if isb d 45 && !isb x 93 then some x.b else none
  | _ => none
theorem rangeS_len {l : List Sg} {x : UInt8} (h : rangeS l = some x) : 2 ≤ l.length := by
  match l, h with
  | _ :: _ :: _, _ => simp

/-- The members of a set, and how many signs to its end. -/
def setS (first : Bool) (k : Nat) (sp : List Span) (l : List Sg) : Option (List Span × Nat) :=
  match l with
  | [] => none
  | s :: t => if isb s 93 && !first then some (sp, k + 1) else
    match _hn : namedS (s :: t) with
    | some (cs, n) => setS false (k + n) (sp ++ cs) ((s :: t).drop n)
    | none => match rangeS t with
      | some x => setS false (k + 3) (sp ++ [(s.b, x)]) (t.drop 2)
      | none => setS false (k + 1) (sp ++ [(s.b, s.b)]) t
  termination_by l.length
  decreasing_by
    · have := namedS_gt _hn; simp at this ⊢; omega
    · simp; omega
    · simp
theorem setS_nil (f : Bool) (k : Nat) (sp : List Span) : setS f k sp [] = none := by rw [setS]
theorem setS_end {k : Nat} {sp : List Span} {s : Sg} {t : List Sg} (h : isb s 93 = true) : setS false k sp (s :: t) = some (sp, k + 1) := by rw [setS, if_pos (by rw [h]; rfl)]
theorem setS_named {f : Bool} {k : Nat} {sp cs : List Span} {s : Sg} {t : List Sg} {n : Nat} (h : (isb s 93 && !f) = false) (hn : namedS (s :: t) = some (cs, n)) : setS f k sp (s :: t) = setS false (k + n) (sp ++ cs) ((s :: t).drop n) := by
  rw [setS, if_neg (by rw [h]; decide)]
  split
  · rename_i cs' n' h'; rw [hn] at h'; cases h'; rfl
  · rename_i h'; rw [hn] at h'; cases h'
theorem setS_range {f : Bool} {k : Nat} {sp : List Span} {s : Sg} {t : List Sg} {x : UInt8} (h : (isb s 93 && !f) = false) (hn : namedS (s :: t) = none) (hr : rangeS t = some x) : setS f k sp (s :: t) = setS false (k + 3) (sp ++ [(s.b, x)]) (t.drop 2) := by
  rw [setS, if_neg (by rw [h]; decide)]
  split
  · rename_i cs' n' h'; rw [hn] at h'; cases h'
  · rw [hr]
theorem setS_one {f : Bool} {k : Nat} {sp : List Span} {s : Sg} {t : List Sg} (h : (isb s 93 && !f) = false) (hn : namedS (s :: t) = none) (hr : rangeS t = none) : setS f k sp (s :: t) = setS false (k + 1) (sp ++ [(s.b, s.b)]) t := by
  rw [setS, if_neg (by rw [h]; decide)]
  split
  · rename_i cs' n' h'; rw [hn] at h'; cases h'
  · rw [hr]
theorem setS_gt : ∀ (n : Nat) (l : List Sg) (f : Bool) (k : Nat) (sp sp' : List Span) (j : Nat), l.length ≤ n → setS f k sp l = some (sp', j) → k + 1 ≤ j ∧ j ≤ k + l.length
  | _, [], _, _, _, _, _, _, h => by rw [setS_nil] at h; cases h
  | 0, _ :: _, _, _, _, _, _, h, _ => by simp at h
  | n + 1, s :: t, f, k, sp, sp', j, hn, h => by
    simp at hn
    cases he : (isb s 93 && !f) with
    | true =>
      simp at he
      obtain ⟨he, rfl⟩ := he
      rw [setS_end he] at h; cases h; simp
    | false =>
      cases hm : namedS (s :: t) with
      | some x =>
        obtain ⟨cs, m⟩ := x
        rw [setS_named he hm] at h
        have h1 := namedS_gt hm
        have h2 := setS_gt n _ _ _ _ _ _ (by simp at h1 ⊢; omega) h
        simp at h1 h2 ⊢; omega
      | none =>
        cases hr : rangeS t with
        | some x =>
          rw [setS_range he hm hr] at h
          have h1 := rangeS_len hr
          have h2 := setS_gt n _ _ _ _ _ _ (by simp; omega) h
          simp at h2 ⊢; omega
        | none =>
          rw [setS_one he hm hr] at h
          have h2 := setS_gt n _ _ _ _ _ _ (by omega) h
          simp at h2 ⊢; omega

/-- A set behind its bracket. -/
def notS : List Sg → Bool
  | s :: _ => isb s 33 || isb s 94
  | [] => false
def setP (l : List Sg) : Option (Pt × Nat) := match setS true (if notS l then 1 else 0) [] (if notS l then l.drop 1 else l) with
  | some (sp, k) => some (⟨91, 0, notS l, sp⟩, k)
  | none => none
theorem notS_len {l : List Sg} (h : notS l = true) : 1 ≤ l.length := by
  cases l with
  | nil => cases h
  | cons => simp
theorem setP_gt {l : List Sg} {p : Pt} {k : Nat} (h : setP l = some (p, k)) : 1 ≤ k ∧ k ≤ l.length := by
  unfold setP at h
  split at h
  · rename_i sp k' h2
    cases h
    have := setS_gt _ _ _ _ _ _ _ (Nat.le_refl _) h2
    split at this
    · rename_i hn
      have := notS_len hn
      simp_all; omega
    · omega
  · cases h

/-- The pattern of signs. -/
def comp (l : List Sg) : List Pt :=
  match l with
  | [] => []
  | c :: t => if isb c 63 || isb c 42 then ⟨c.b, 0, false, []⟩ :: comp t else
    if isb c 91 then match setP t with
      | some (p, n) => p :: comp (t.drop n)
      | none => ⟨98, c.b, false, []⟩ :: comp t
    else ⟨98, c.b, false, []⟩ :: comp t
  termination_by l.length
  decreasing_by all_goals (simp; try omega)
theorem comp_nil : comp [] = [] := by rw [comp]
theorem comp_sign {c : Sg} {t : List Sg} (h : (isb c 63 || isb c 42) = true) : comp (c :: t) = ⟨c.b, 0, false, []⟩ :: comp t := by rw [comp, if_pos h]
theorem comp_set {c : Sg} {t : List Sg} {p : Pt} {n : Nat} (h : isb c 91 = true) (hs : setP t = some (p, n)) : comp (c :: t) = p :: comp (t.drop n) := by
  have hb : c.b = 91 := by simp [isb] at h; exact h.2
  have h1 : (isb c 63 || isb c 42) = false := by simp [isb, hb]
  rw [comp, if_neg (by rw [h1]; decide), if_pos h]
  split
  · rename_i p' n' h'; rw [hs] at h'; cases h'; rfl
  · rename_i h'; rw [hs] at h'; cases h'
theorem comp_byte {c : Sg} {t : List Sg} (h1 : (isb c 63 || isb c 42) = false) (h2 : isb c 91 = true → setP t = none) : comp (c :: t) = ⟨98, c.b, false, []⟩ :: comp t := by
  rw [comp, if_neg (by rw [h1]; decide)]
  split
  · rename_i h
    split
    · rename_i p' n' h'; rw [h2 h] at h'; cases h'
    · rfl
  · rfl

/-! ### which texts -/
def anyT (f : List UInt8 → Bool) : List UInt8 → Bool
  | [] => f []
  | c :: s => f (c :: s) || anyT f s
def matchP : List Pt → List UInt8 → Bool
  | [], s => s.isEmpty
  | p :: l, s => if p.kind = 42 then anyT (matchP l) s else match s with
    | [] => false
    | c :: s' => fitsP p c && matchP l s'
theorem anyT_iff (f : List UInt8 → Bool) : ∀ s, anyT f s = true ↔ ∃ n, n ≤ s.length ∧ f (s.drop n) = true
  | [] => by
    constructor
    · intro h; exact ⟨0, Nat.le_refl _, h⟩
    · rintro ⟨n, hn, h⟩; simpa [anyT] using h
  | c :: s => by
    rw [anyT, Bool.or_eq_true, anyT_iff f s]
    constructor
    · rintro (h | ⟨n, hn, h⟩)
      · exact ⟨0, by omega, h⟩
      · exact ⟨n + 1, by simp; omega, h⟩
    · rintro ⟨n, hn, h⟩
      cases n with
      | zero => exact .inl h
      | succ n => exact .inr ⟨n, by simp at hn; omega, h⟩
theorem matchP_nil (s : List UInt8) : matchP [] s = s.isEmpty := by unfold matchP; rfl
theorem matchP_star {p : Pt} {l : List Pt} {s : List UInt8} (h : p.kind = 42) : matchP (p :: l) s = anyT (matchP l) s := by
  show (if p.kind = 42 then anyT (matchP l) s else _) = _
  rw [if_pos h]
theorem matchP_end {p : Pt} {l : List Pt} (h : p.kind ≠ 42) : matchP (p :: l) [] = false := by
  show (if p.kind = 42 then anyT (matchP l) [] else false) = _
  rw [if_neg h]
theorem matchP_cons {p : Pt} {l : List Pt} {c : UInt8} {s : List UInt8} (h : p.kind ≠ 42) : matchP (p :: l) (c :: s) = (fitsP p c && matchP l s) := by
  show (if p.kind = 42 then anyT (matchP l) (c :: s) else (fitsP p c && matchP l s)) = _
  rw [if_neg h]

/-- Parts without a star take just as many bytes as they are. -/
theorem matchP_seg : ∀ (l1 l2 : List Pt) (s : List UInt8), (∀ p ∈ l1, p.kind ≠ 42) → matchP (l1 ++ l2) s = true → l1.length ≤ s.length ∧ matchP l2 (s.drop l1.length) = true
  | [], _, _, _, h => ⟨Nat.zero_le _, h⟩
  | p :: l1, l2, [], hp, h => by rw [List.cons_append, matchP_end (hp p (by simp))] at h; cases h
  | p :: l1, l2, c :: s, hp, h => by
    rw [List.cons_append, matchP_cons (hp p (by simp)), Bool.and_eq_true] at h
    have := matchP_seg l1 l2 s (fun q hq => hp q (by simp [hq])) h.2
    simp; exact this

/-! ### the way that goes back to the last star alone -/
/-- May the text behind the last star be taken up further on than at mark? -/
def later (l : List Pt) (s : List UInt8) (st mark : Nat) : Prop := ∃ m, mark < m ∧ m ≤ s.length ∧ matchP (l.drop (st + 1)) (s.drop m) = true
structure Greedy (l : List Pt) (s : List UInt8) (R : Bool) (i k : Nat) (star : Int) (mark : Nat) : Prop where
  hi : i ≤ s.length
  hk : k ≤ l.length
  hm : mark ≤ i
  way : (star = -1 ∧ R = matchP (l.drop k) (s.drop i)) ∨ ∃ st : Nat, star = st ∧ st < k ∧ i + st + 1 = k + mark ∧ (∀ j, st < j → j < k → ∀ p, l[j]? = some p → p.kind ≠ 42) ∧ (R = true ↔ matchP (l.drop k) (s.drop i) = true ∨ later l s st mark)

theorem Greedy.start (l : List Pt) (s : List UInt8) : Greedy l s (matchP l s) 0 0 (-1) 0 := ⟨Nat.zero_le _, Nat.zero_le _, Nat.le_refl _, .inl ⟨rfl, rfl⟩⟩

theorem drop_cons {α : Type} {l : List α} {k : Nat} {p : α} (h : l[k]? = some p) : l.drop k = p :: l.drop (k + 1) := by
  obtain ⟨hk, e⟩ := List.getElem?_eq_some_iff.1 h
  rw [List.drop_eq_getElem_cons hk, e]

theorem Greedy.star {l : List Pt} {s : List UInt8} {R : Bool} {i k : Nat} {star : Int} {mark : Nat} (h : Greedy l s R i k star mark) {p : Pt} (hp : l[k]? = some p) (hs : p.kind = 42) : Greedy l s R i (k + 1) k i := by
  obtain ⟨hi, hk, hm, way⟩ := h
  have hk' := (List.getElem?_eq_some_iff.1 hp).1
  have hM : matchP (l.drop k) (s.drop i) = true ↔ matchP (l.drop (k + 1)) (s.drop i) = true ∨ later l s k i := by
    rw [drop_cons hp, matchP_star hs, anyT_iff]
    constructor
    · rintro ⟨n, hn, h⟩
      rw [List.length_drop] at hn
      rw [List.drop_drop] at h
      cases n with
      | zero => exact .inl h
      | succ n => exact .inr ⟨i + (n + 1), by omega, by omega, h⟩
    · rintro (h | ⟨m, h1, h2, h3⟩)
      · exact ⟨0, Nat.zero_le _, h⟩
      · exact ⟨m - i, by rw [List.length_drop]; omega, by rw [List.drop_drop, show i + (m - i) = m by omega]; exact h3⟩
  refine ⟨hi, hk', Nat.le_refl _, .inr ⟨k, rfl, by omega, by omega, fun j h1 h2 => by omega, ?_⟩⟩
  rcases way with ⟨_, hR⟩ | ⟨st, _, hst, hoff, hseg, hR⟩
  · rw [hR]; exact hM
  · rw [hR, ← hM]
    constructor
    · rintro (h | ⟨m, h1, h2, h3⟩)
      · exact h
      · -- what matches further on, over parts without a star up to this one, is this star's too
        have e : l.drop (st + 1) = (l.drop (st + 1)).take (k - (st + 1)) ++ l.drop k := by
          conv => lhs; rw [← List.take_append_drop (k - (st + 1)) (l.drop (st + 1))]
          rw [List.drop_drop, show st + 1 + (k - (st + 1)) = k by omega]
        rw [e] at h3
        have hlen : ((l.drop (st + 1)).take (k - (st + 1))).length = k - (st + 1) := by rw [List.length_take, List.length_drop]; omega
        have hm3 := matchP_seg _ _ _ (fun q hq => by
          obtain ⟨j, hj, e⟩ := List.getElem_of_mem hq
          rw [hlen] at hj
          rw [List.getElem_take, List.getElem_drop] at e
          exact hseg (st + 1 + j) (by omega) (by omega) q (by rw [List.getElem?_eq_getElem (by omega), e])) h3
        rw [hlen, List.drop_drop] at hm3
        have h4 : m + (k - (st + 1)) ≤ s.length := by have := hm3.1; rw [List.length_drop] at this; omega
        rw [drop_cons hp, matchP_star hs, anyT_iff] at hm3 ⊢
        obtain ⟨_, n, hn, hx⟩ := hm3
        rw [List.length_drop] at hn
        refine ⟨m + (k - (st + 1)) + n - i, by rw [List.length_drop]; omega, ?_⟩
        rw [List.drop_drop] at hx ⊢
        rw [show i + (m + (k - (st + 1)) + n - i) = m + (k - (st + 1)) + n by omega]
        exact hx
    · exact .inl

theorem Greedy.fit {l : List Pt} {s : List UInt8} {R : Bool} {i k : Nat} {star : Int} {mark : Nat} (h : Greedy l s R i k star mark) {p : Pt} (hp : l[k]? = some p) (hs : p.kind ≠ 42) {c : UInt8} (hc : s[i]? = some c) (hf : fitsP p c = true) : Greedy l s R (i + 1) (k + 1) star mark := by
  obtain ⟨hi, hk, hm, way⟩ := h
  have hk' := (List.getElem?_eq_some_iff.1 hp).1
  have hi' := (List.getElem?_eq_some_iff.1 hc).1
  have hM : matchP (l.drop k) (s.drop i) = matchP (l.drop (k + 1)) (s.drop (i + 1)) := by rw [drop_cons hp, drop_cons hc, matchP_cons hs, hf, Bool.true_and]
  refine ⟨hi', hk', by omega, ?_⟩
  rcases way with ⟨h1, hR⟩ | ⟨st, h1, hst, hoff, hseg, hR⟩
  · exact .inl ⟨h1, by rw [hR, hM]⟩
  · refine .inr ⟨st, h1, by omega, by omega, fun j h2 h3 q hq => ?_, by rw [hR, hM]⟩
    by_cases e : j = k
    · subst e; rw [hp] at hq; cases hq; exact hs
    · exact hseg j h2 (by omega) q hq

theorem Greedy.yes {l : List Pt} {s : List UInt8} {R : Bool} {i k : Nat} {star : Int} {mark : Nat} (h : Greedy l s R i k star mark) (hi : i = s.length) (hk : k = l.length) : R = true := by
  have hM : matchP (l.drop k) (s.drop i) = true := by rw [hi, hk, List.drop_length, List.drop_length]; rfl
  rcases h.way with ⟨_, hR⟩ | ⟨_, _, _, _, _, hR⟩
  · rw [hR, hM]
  · exact hR.2 (.inl hM)

/-- Neither a star, nor a part that fits, nor the end of both. -/
theorem no_way {l : List Pt} {s : List UInt8} {i k : Nat} (hi : i ≤ s.length) (hk : k ≤ l.length) (h1 : ∀ p, l[k]? = some p → p.kind ≠ 42) (h2 : ∀ p c, l[k]? = some p → s[i]? = some c → fitsP p c = false) (h3 : ¬ (i = s.length ∧ k = l.length)) :
    matchP (l.drop k) (s.drop i) = false := by
  rcases Nat.lt_or_ge k l.length with hk' | hk'
  · have hp : l[k]? = some l[k] := List.getElem?_eq_getElem hk'
    rw [drop_cons hp]
    rcases Nat.lt_or_ge i s.length with hi' | hi'
    · have hc : s[i]? = some s[i] := List.getElem?_eq_getElem hi'
      rw [drop_cons hc, matchP_cons (h1 _ hp), h2 _ _ hp hc, Bool.false_and]
    · rw [List.drop_of_length_le hi', matchP_end (h1 _ hp)]
  · rw [List.drop_of_length_le hk', matchP_nil]
    rcases Nat.lt_or_ge i s.length with hi' | hi'
    · rw [List.drop_eq_getElem_cons hi']; rfl
    · exact absurd ⟨by omega, by omega⟩ h3

theorem Greedy.back {l : List Pt} {s : List UInt8} {R : Bool} {i k : Nat} {star : Int} {mark : Nat} (h : Greedy l s R i k star mark) (hno : matchP (l.drop k) (s.drop i) = false) {st : Nat} (hst : star = st) (hm : mark < s.length) : Greedy l s R (mark + 1) (st + 1) star (mark + 1) := by
  obtain ⟨hi, hk, hm', way⟩ := h
  rcases way with ⟨h1, _⟩ | ⟨st', h1, hst', hoff, hseg, hR⟩
  · omega
  · obtain rfl : st' = st := by omega
    refine ⟨hm, by omega, Nat.le_refl _, .inr ⟨st', h1, by omega, by omega, fun j h2 h3 => by omega, ?_⟩⟩
    rw [hR, hno]
    constructor
    · rintro (h | ⟨m, h2, h3, h4⟩)
      · cases h
      · by_cases e : m = mark + 1
        · subst e; exact .inl h4
        · exact .inr ⟨m, by omega, h3, h4⟩
    · rintro (h | ⟨m, h2, h3, h4⟩)
      · exact .inr ⟨mark + 1, by omega, hm, h⟩
      · exact .inr ⟨m, by omega, h3, h4⟩

theorem Greedy.no {l : List Pt} {s : List UInt8} {R : Bool} {i k : Nat} {star : Int} {mark : Nat} (h : Greedy l s R i k star mark) (hno : matchP (l.drop k) (s.drop i) = false) (hm : star < 0 ∨ s.length ≤ mark) : R = false := by
  rcases h.way with ⟨h1, hR⟩ | ⟨st', h1, _, _, _, hR⟩
  · rw [hR, hno]
  · rcases hm with hm | hm
    · omega
    · rw [Bool.eq_false_iff]
      intro hr
      rcases hR.1 hr with h2 | ⟨m, h2, h3, _⟩
      · rw [hno] at h2; cases h2
      · omega
end Go.Proofs.YtjeinpadcknfbaaGreatDoor
/-
  Signs and spans in memory; the bytes that a name stands for: the walk.
-/
namespace Go.Proofs.YtjeinpadcknfbaaGreatDoor
open Go.RowKit

def spanC (s : Span) : List Value := [.int .u8 ((s.1.toNat : Nat) : Int), .int .u8 ((s.2.toNat : Nat) : Int)]
def sgC (s : Sg) : List Value := [.int .u8 ((s.b.toNat : Nat) : Int), .bool s.q]
theorem spanC_len (s : Span) : (spanC s).length = 2 := rfl
theorem sgC_len (s : Sg) : (sgC s).length = 2 := rfl

def ClassPost (o : Option (List Span)) (w : World) (e : Ending) (w' : World) : Prop := Below w.heap.size w w' ∧ match o with
  | some sp => ∃ v, e = .returned (.tuple #[v, .bool true]) ∧ Sl w' w'.heap.size 2 v sp.length (sp.flatMap spanC)
  | none => e = .returned (.tuple #[.slice none 0 0, .bool false])

theorem ne_toList {n : ByteArray} {m : List UInt8} (h : L n ≠ m) : (n.toList == m) = false := by rw [toList_L, beq_eq_false_iff_ne]; exact h

theorem class_no (n : ByteArray) (w : World) (h : classL (L n) = none) : Calls Tryz.prog 112 #[.string n] w (ClassPost none w) := by
  obtain ⟨h1, h2, h3, h4, h5, h6, h7, h8, h9, h10, h11, h12⟩ := classL_none h
  have e1 : (n.toList == [97, 108, 112, 104, 97]) = false := ne_toList h1
  have e2 : (n.toList == [100, 105, 103, 105, 116]) = false := ne_toList h2
  have e3 : (n.toList == [97, 108, 110, 117, 109]) = false := ne_toList h3
  have e4 : (n.toList == [117, 112, 112, 101, 114]) = false := ne_toList h4
  have e5 : (n.toList == [108, 111, 119, 101, 114]) = false := ne_toList h5
  have e6 : (n.toList == [115, 112, 97, 99, 101]) = false := ne_toList h6
  have e7 : (n.toList == [98, 108, 97, 110, 107]) = false := ne_toList h7
  have e8 : (n.toList == [112, 117, 110, 99, 116]) = false := ne_toList h8
  have e9 : (n.toList == [120, 100, 105, 103, 105, 116]) = false := ne_toList h9
  have e10 : (n.toList == [99, 110, 116, 114, 108]) = false := ne_toList h10
  have e11 : (n.toList == [112, 114, 105, 110, 116]) = false := ne_toList h11
  have e12 : (n.toList == [103, 114, 97, 112, 104]) = false := ne_toList h12
  clear h h1 h2 h3 h4 h5 h6 h7 h8 h9 h10 h11 h12
  go_enter Tryz.func112, Tryz.ntmps112
  go_wp2
  go_ret2
  exact ⟨Below.refl _ _, rfl⟩

theorem class_Alpha (w : World) : Calls Tryz.prog 112 #[.string ⟨#[97, 108, 112, 104, 97]⟩] w (ClassPost (some [(97, 122), (65, 90)]) w) := by
  go_enter Tryz.func112, Tryz.ntmps112
  go_wp2
  go_ret2
  exact ⟨Below.alloc (Below.refl _ _) (Nat.le_refl _) _, _, rfl, sl_made w _ _ _ 2 rfl (by decide) (by simp)⟩

theorem class_Digit (w : World) : Calls Tryz.prog 112 #[.string ⟨#[100, 105, 103, 105, 116]⟩] w (ClassPost (some [(48, 57)]) w) := by
  go_enter Tryz.func112, Tryz.ntmps112
  go_wp2
  go_ret2
  exact ⟨Below.alloc (Below.refl _ _) (Nat.le_refl _) _, _, rfl, sl_made w _ _ _ 2 rfl (by decide) (by simp)⟩

theorem class_Alnum (w : World) : Calls Tryz.prog 112 #[.string ⟨#[97, 108, 110, 117, 109]⟩] w (ClassPost (some [(97, 122), (65, 90), (48, 57)]) w) := by
  go_enter Tryz.func112, Tryz.ntmps112
  go_wp2
  go_ret2
  exact ⟨Below.alloc (Below.refl _ _) (Nat.le_refl _) _, _, rfl, sl_made w _ _ _ 2 rfl (by decide) (by simp)⟩

theorem class_Upper (w : World) : Calls Tryz.prog 112 #[.string ⟨#[117, 112, 112, 101, 114]⟩] w (ClassPost (some [(65, 90)]) w) := by
  go_enter Tryz.func112, Tryz.ntmps112
  go_wp2
  go_ret2
  exact ⟨Below.alloc (Below.refl _ _) (Nat.le_refl _) _, _, rfl, sl_made w _ _ _ 2 rfl (by decide) (by simp)⟩

theorem class_Lower (w : World) : Calls Tryz.prog 112 #[.string ⟨#[108, 111, 119, 101, 114]⟩] w (ClassPost (some [(97, 122)]) w) := by
  go_enter Tryz.func112, Tryz.ntmps112
  go_wp2
  go_ret2
  exact ⟨Below.alloc (Below.refl _ _) (Nat.le_refl _) _, _, rfl, sl_made w _ _ _ 2 rfl (by decide) (by simp)⟩

theorem class_Space (w : World) : Calls Tryz.prog 112 #[.string ⟨#[115, 112, 97, 99, 101]⟩] w (ClassPost (some [(9, 13), (32, 32)]) w) := by
  go_enter Tryz.func112, Tryz.ntmps112
  go_wp2
  go_ret2
  exact ⟨Below.alloc (Below.refl _ _) (Nat.le_refl _) _, _, rfl, sl_made w _ _ _ 2 rfl (by decide) (by simp)⟩

theorem class_Blank (w : World) : Calls Tryz.prog 112 #[.string ⟨#[98, 108, 97, 110, 107]⟩] w (ClassPost (some [(9, 9), (32, 32)]) w) := by
  go_enter Tryz.func112, Tryz.ntmps112
  go_wp2
  go_ret2
  exact ⟨Below.alloc (Below.refl _ _) (Nat.le_refl _) _, _, rfl, sl_made w _ _ _ 2 rfl (by decide) (by simp)⟩

theorem class_Punct (w : World) : Calls Tryz.prog 112 #[.string ⟨#[112, 117, 110, 99, 116]⟩] w (ClassPost (some [(33, 47), (58, 64), (91, 96), (123, 126)]) w) := by
  go_enter Tryz.func112, Tryz.ntmps112
  go_wp2
  go_ret2
  exact ⟨Below.alloc (Below.refl _ _) (Nat.le_refl _) _, _, rfl, sl_made w _ _ _ 2 rfl (by decide) (by simp)⟩

theorem class_Xdigit (w : World) : Calls Tryz.prog 112 #[.string ⟨#[120, 100, 105, 103, 105, 116]⟩] w (ClassPost (some [(48, 57), (97, 102), (65, 70)]) w) := by
  go_enter Tryz.func112, Tryz.ntmps112
  go_wp2
  go_ret2
  exact ⟨Below.alloc (Below.refl _ _) (Nat.le_refl _) _, _, rfl, sl_made w _ _ _ 2 rfl (by decide) (by simp)⟩

theorem class_Cntrl (w : World) : Calls Tryz.prog 112 #[.string ⟨#[99, 110, 116, 114, 108]⟩] w (ClassPost (some [(0, 31), (127, 127)]) w) := by
  go_enter Tryz.func112, Tryz.ntmps112
  go_wp2
  go_ret2
  exact ⟨Below.alloc (Below.refl _ _) (Nat.le_refl _) _, _, rfl, sl_made w _ _ _ 2 rfl (by decide) (by simp)⟩

theorem class_Print (w : World) : Calls Tryz.prog 112 #[.string ⟨#[112, 114, 105, 110, 116]⟩] w (ClassPost (some [(32, 126)]) w) := by
  go_enter Tryz.func112, Tryz.ntmps112
  go_wp2
  go_ret2
  exact ⟨Below.alloc (Below.refl _ _) (Nat.le_refl _) _, _, rfl, sl_made w _ _ _ 2 rfl (by decide) (by simp)⟩

theorem class_Graph (w : World) : Calls Tryz.prog 112 #[.string ⟨#[103, 114, 97, 112, 104]⟩] w (ClassPost (some [(33, 126)]) w) := by
  go_enter Tryz.func112, Tryz.ntmps112
  go_wp2
  go_ret2
  exact ⟨Below.alloc (Below.refl _ _) (Nat.le_refl _) _, _, rfl, sl_made w _ _ _ 2 rfl (by decide) (by simp)⟩

theorem class_any (n : ByteArray) (w : World) : Calls Tryz.prog 112 #[.string n] w (ClassPost (classL (L n)) w) := by
  by_cases h0 : L n = nmAlpha
  · have e : n = ⟨#[97, 108, 112, 104, 97]⟩ := L_inj h0
    have ec : classL (L n) = some [(97, 122), (65, 90)] := by rw [h0]; decide
    rw [ec, e]
    exact class_Alpha w
  by_cases h1 : L n = nmDigit
  · have e : n = ⟨#[100, 105, 103, 105, 116]⟩ := L_inj h1
    have ec : classL (L n) = some [(48, 57)] := by rw [h1]; decide
    rw [ec, e]
    exact class_Digit w
  by_cases h2 : L n = nmAlnum
  · have e : n = ⟨#[97, 108, 110, 117, 109]⟩ := L_inj h2
    have ec : classL (L n) = some [(97, 122), (65, 90), (48, 57)] := by rw [h2]; decide
    rw [ec, e]
    exact class_Alnum w
  by_cases h3 : L n = nmUpper
  · have e : n = ⟨#[117, 112, 112, 101, 114]⟩ := L_inj h3
    have ec : classL (L n) = some [(65, 90)] := by rw [h3]; decide
    rw [ec, e]
    exact class_Upper w
  by_cases h4 : L n = nmLower
  · have e : n = ⟨#[108, 111, 119, 101, 114]⟩ := L_inj h4
    have ec : classL (L n) = some [(97, 122)] := by rw [h4]; decide
    rw [ec, e]
    exact class_Lower w
  by_cases h5 : L n = nmSpace
  · have e : n = ⟨#[115, 112, 97, 99, 101]⟩ := L_inj h5
    have ec : classL (L n) = some [(9, 13), (32, 32)] := by rw [h5]; decide
    rw [ec, e]
    exact class_Space w
  by_cases h6 : L n = nmBlank
  · have e : n = ⟨#[98, 108, 97, 110, 107]⟩ := L_inj h6
    have ec : classL (L n) = some [(9, 9), (32, 32)] := by rw [h6]; decide
    rw [ec, e]
    exact class_Blank w
  by_cases h7 : L n = nmPunct
  · have e : n = ⟨#[112, 117, 110, 99, 116]⟩ := L_inj h7
    have ec : classL (L n) = some [(33, 47), (58, 64), (91, 96), (123, 126)] := by rw [h7]; decide
    rw [ec, e]
    exact class_Punct w
  by_cases h8 : L n = nmXdigit
  · have e : n = ⟨#[120, 100, 105, 103, 105, 116]⟩ := L_inj h8
    have ec : classL (L n) = some [(48, 57), (97, 102), (65, 70)] := by rw [h8]; decide
    rw [ec, e]
    exact class_Xdigit w
  by_cases h9 : L n = nmCntrl
  · have e : n = ⟨#[99, 110, 116, 114, 108]⟩ := L_inj h9
    have ec : classL (L n) = some [(0, 31), (127, 127)] := by rw [h9]; decide
    rw [ec, e]
    exact class_Cntrl w
  by_cases h10 : L n = nmPrint
  · have e : n = ⟨#[112, 114, 105, 110, 116]⟩ := L_inj h10
    have ec : classL (L n) = some [(32, 126)] := by rw [h10]; decide
    rw [ec, e]
    exact class_Print w
  by_cases h11 : L n = nmGraph
  · have e : n = ⟨#[103, 114, 97, 112, 104]⟩ := L_inj h11
    have ec : classL (L n) = some [(33, 126)] := by rw [h11]; decide
    rw [ec, e]
    exact class_Graph w
  have hn : classL (L n) = none := by
    unfold classL
    rw [if_neg h0, if_neg h1, if_neg h2, if_neg h3, if_neg h4, if_neg h5, if_neg h6, if_neg h7, if_neg h8, if_neg h9, if_neg h10, if_neg h11]
  rw [hn]
  exact class_no n w hn

end Go.Proofs.YtjeinpadcknfbaaGreatDoor
/-
  A sign that means something; a name between brackets: the walks.
-/
namespace Go.Proofs.YtjeinpadcknfbaaGreatDoor
open Go.RowKit

@[go_sem] theorem Tryz.convK (w : World) (b off l c : Nat) : (convert 72 9 (.slice (some ⟨b, off, none⟩) l c)).run Tryz.prog w = convK (cellBytes w b off l) w (convFb Tryz.prog w 72 9 b off l c) :=
  run_convK 72 9 5 Tryz.underlying72 Tryz.underlying5 Tryz.underlying9 w b off l c
theorem beq_byte (b c : UInt8) : (((b.toNat : Nat) : Int) == ((c.toNat : Nat) : Int)) = (b == c) := by
  rw [Bool.eq_iff_iff, beq_iff_eq, beq_iff_eq]
  constructor
  · intro h; exact UInt8.toNat_inj.1 (by omega)
  · intro h; rw [h]

/-- An element of a slice of signs. -/
theorem sg_at {w : World} {B : Nat} {v : Value} {l : List Sg} (h : Sl w B 2 v l.length (l.flatMap sgC)) {k : Nat} {x : Sg} (hx : l[k]? = some x) (i : Int) (hi : i = k) :
    ∃ b o, (∀ w' : World, (Instr.indexAt 131 v (.int .i64 i)).run Tryz.prog w' = .ok (.pointer (some ⟨b, o, none⟩)) w') ∧ b < B ∧ w.cell? ⟨b, o, none⟩ = some (.int .u8 ((x.b.toNat : Nat) : Int)) ∧ w.cell? ⟨b, o + 1, none⟩ = some (.bool x.q) := by
  subst hi
  have hk := (List.getElem?_eq_some_iff.1 hx).1
  obtain ⟨a, cap, b, off, rfl, _, _, h1, h2, h3⟩ := h.open (P := Tryz.prog) 131 134 Tryz.underlying131 (by kernel_rfl)
  have g := flat_get sgC 2 sgC_len l k x hx
  refine ⟨b, off + k * 2, fun w' => h1 k w' hk, by omega, ?_, ?_⟩
  · rw [show off + k * 2 = off + (k * 2 + 0) by omega, h3 _ (by omega), g 0 (by omega)]; rfl
  · rw [show off + k * 2 + 1 = off + (k * 2 + 1) by omega, h3 _ (by omega), g 1 (by omega)]; rfl

theorem is_any (s : Sg) (c : UInt8) (r : Bool) (hr : isb s c = r) (w : World) : Calls Tryz.prog 69 #[.agg #[.int .u8 ((s.b.toNat : Nat) : Int), .bool s.q], .int .u8 ((c.toNat : Nat) : Int)] w
    fun e w' => e = .returned (.bool r) ∧ w.alloc (.cells #[.int .u8 ((s.b.toNat : Nat) : Int), .bool s.q] 134) = w' := by
  obtain ⟨b, q⟩ := s
  have HR := Lib.hid hr
  clear hr
  cases q
  all_goals
    go_enter Tryz.func69, Tryz.ntmps69
    go_wp2
    go_ret
    exact ⟨ret_bool (by rw [← HR.out]; first | rfl | (unfold isb; simp [beq_byte])), rfl⟩

/-- A test of a sign, as a contract. -/
abbrev IsAt (s : Sg) (n : Int) (r : Bool) : Prop := ∀ w : World, Calls Tryz.prog 69 #[.agg #[.int .u8 ((s.b.toNat : Nat) : Int), .bool s.q], .int .u8 n] w
    fun e w' => e = .returned (.bool r) ∧ w.alloc (.cells #[.int .u8 ((s.b.toNat : Nat) : Int), .bool s.q] 134) = w'
theorem is_at (s : Sg) (c : UInt8) (r : Bool) (hr : isb s c = r) (n : Int) (hn : n = (c.toNat : Nat)) : Hid (IsAt s n r) := by
  subst hn
  exact Lib.hid (fun w => is_any s c r hr w)

def NamedPost (o : Option (List Span × Nat)) (w : World) (e : Ending) (w' : World) : Prop := Below w.heap.size w w' ∧ match o with
  | some (sp, n) => ∃ v, e = .returned (.tuple #[v, .int .i64 (n : Nat), .bool true]) ∧ Sl w' w'.heap.size 2 v sp.length (sp.flatMap spanC)
  | none => ∃ v x, e = .returned (.tuple #[v, x, .bool false])

theorem namedS_short {l : List Sg} (h : l.length < 2) : namedS l = none := by
  match l, h with
  | [], _ => rfl
  | [x], _ => rfl
theorem namedS_no {x y : Sg} {l : List Sg} (h : (isb x 91 && isb y 58) = false) : namedS (x :: y :: l) = none := by rw [namedS, if_neg (by rw [h]; decide)]
theorem namedS_yes {x y : Sg} {l : List Sg} (h : (isb x 91 && isb y 58) = true) : namedS (x :: y :: l) = match nameS [] 2 l with
    | some (n, k) => (classL n).map (·, k)
    | none => none := by
  rw [namedS, if_pos h]
  first | done | (cases nameS [] 2 l <;> rfl)

set_option maxHeartbeats 1000000 in
theorem named_any (l : List Sg) (v : Value) (w : World) (hl : Sl w w.heap.size 2 v l.length (l.flatMap sgC)) (hn : l.length ≤ 100000) :
    Calls Tryz.prog 92 #[v] w (NamedPost (namedS l) w) := by
  by_cases h2 : l.length < 2
  · rw [namedS_short h2]
    obtain ⟨a, cap, rfl⟩ : ∃ a cap, v = .slice a l.length cap := by
      obtain ⟨_, a, cap, h, _⟩ := hl
      exact ⟨a, cap, h⟩
    have ht : decide ((l.length : Int) < 2) = true := by simp; omega
    go_enter Tryz.func92, Tryz.ntmps92
    go_wp2
    go_ret3
    exact ⟨Below.refl _ _, _, _, rfl⟩
  · obtain ⟨x, y, t, rfl⟩ : ∃ x y t, l = x :: y :: t := by
      match l, h2 with
      | x :: y :: t, _ => exact ⟨x, y, t, rfl⟩
      | [], h => simp at h
      | [x], h => simp at h
    have hlen : (x :: y :: t).length = t.length + 2 := rfl
    obtain ⟨b1, o1, i1, hb1, c1, d1⟩ := sg_at hl (k := 0) (x := x) rfl 0 rfl
    obtain ⟨b2, o2, i2, hb2, c2, d2⟩ := sg_at hl (k := 1) (x := y) rfl 1 rfl
    obtain ⟨a, cap, hv⟩ : ∃ a cap, v = .slice a (t.length + 2) cap := by
      obtain ⟨_, a, cap, h, _⟩ := hl
      exact ⟨a, cap, h⟩
    obtain ⟨r1, hr1⟩ : ∃ r, isb x 91 = r := ⟨_, rfl⟩
    obtain ⟨r2, hr2⟩ : ∃ r, isb y 58 = r := ⟨_, rfl⟩
    have ht : decide ((t.length : Int) + 2 < 2) = false := by simp; omega
    have C1 := is_at x 91 r1 hr1 91 rfl
    have C2 := is_at y 58 r2 hr2 58 rfl
    have HL := Lib.hid hl
    subst hv
    cases r1 with
    | false =>
      rw [namedS_no (by rw [hr1, Bool.false_and])]
      clear h2 hlen hl hr1 hr2
      go_enter Tryz.func92, Tryz.ntmps92
      go_wp2_with (go_at_call 69; refine (C1.out _).mono ?_; rintro e w' ⟨rfl, rfl⟩)
      go_ret3
      exact ⟨Below.alloc (Below.refl _ _) (Nat.le_refl _) _, _, _, rfl⟩
    | true =>
      cases r2 with
      | false =>
        rw [namedS_no (by rw [hr2, Bool.and_false])]
        clear h2 hlen hl hr1 hr2
        go_enter Tryz.func92, Tryz.ntmps92
        go_wp2_with (go_at_call 69; with_reducible first | (refine (C1.out _).mono ?_; rintro e w' ⟨rfl, rfl⟩) | (refine (C2.out _).mono ?_; rintro e w' ⟨rfl, rfl⟩))
        go_ret3
        exact ⟨Below.alloc (Below.alloc (Below.refl _ _) (Nat.le_refl _) _) (by simp) _, _, _, rfl⟩
      | true =>
        rw [namedS_yes (by rw [hr1, hr2]; rfl)]
        obtain ⟨R, hR⟩ : ∃ R, R = nameS [] 2 t := ⟨_, rfl⟩
        rw [← hR]
        have HR0 := Lib.hid hR
        obtain ⟨R2, hR2⟩ : ∃ R2, R2 = (match R with
          | some (n, k) => (classL n).map (·, k)
          | none => none : Option (List Span × Nat)) := ⟨_, rfl⟩
        rw [← hR2]
        have HR2 := Lib.hid hR2
        clear hR2
        have HN := Lib.hid hlen
        have hn' : t.length ≤ 99998 := by simp at hn; omega
        clear hn
        clear h2 hlen hl hr1 hr2 hR
        go_enter Tryz.func92, Tryz.ntmps92
        go_wp2_with (go_at_call 69; with_reducible first | (refine (C1.out _).mono ?_; rintro e w' ⟨rfl, rfl⟩) | (refine (C2.out _).mono ?_; rintro e w' ⟨rfl, rfl⟩))
        go_loopw [5, 6] (fun nm i wr => ∃ (k : Nat) (s : List UInt8), (S s).size ≤ k ∧ k ≤ t.length + 2 ∧ i = .int .i64 k ∧ nm = .string (S s) ∧ R = nameS s k ((x :: y :: t).drop k) ∧ Below w.heap.size w wr) (fun _ i _ => t.length + 2 - (intOf i).toNat)
        case atStart => exact ⟨2, [], by simp [S_size], by omega, rfl, rfl, HR0.out, Below.alloc (Below.alloc (Below.refl _ _) (Nat.le_refl _) _) (by simp) _⟩
        case round =>
          obtain ⟨k, s, hss, hk, rfl, rfl, hr, hb⟩ := hrel
          have hsz := hb.size
          clear c1 d1 c2 d2 C1 C2 i1 i2 hb1 hb2
          by_cases hlt : k + 1 < t.length + 2
          · obtain ⟨p, hp⟩ : ∃ p, (x :: y :: t)[k]? = some p := ⟨_, List.getElem?_eq_getElem (by rw [HN.out]; omega)⟩
            obtain ⟨q, hq⟩ : ∃ q, (x :: y :: t)[k + 1]? = some q := ⟨_, List.getElem?_eq_getElem (by rw [HN.out]; omega)⟩
            obtain ⟨b1, o1, i1, hb1, c1, d1⟩ := sg_at (HL.out.below hb) hp (k : Int) rfl
            obtain ⟨b2, o2, i2, hb2, c2, d2⟩ := sg_at (HL.out.below hb) hq ((k : Int) + 1) (by omega)
            have hb1' : b1 < wr.heap.size := by omega
            have hb2' : b2 < wr.heap.size := by omega
            have hdr := drop_cons hq
            rw [drop_cons hp, hdr, nameS, ← hdr] at hr
            obtain ⟨r1, hr1⟩ : ∃ r, isb p 58 = r := ⟨_, rfl⟩
            obtain ⟨r2, hr2⟩ : ∃ r, isb q 93 = r := ⟨_, rfl⟩
            rw [hr1, hr2] at hr
            have C1 := is_at p 58 r1 hr1 58 rfl
            have C2 := is_at q 93 r2 hr2 93 rfl
            have HB := Lib.hid hb
            clear hp hq hdr hr1 hr2 hb hb1 hb2
            cases r1 with
            | false =>
              rw [if_neg (by simp)] at hr
              have HRR := Lib.hid hr
              clear hr
              go_wp2_with (go_at_call 69; with_reducible first | (refine (C1.out _).mono ?_; rintro e w' ⟨rfl, rfl⟩) | (refine (C2.out _).mono ?_; rintro e w' ⟨rfl, rfl⟩))
              go_roundw
              case rel => exact ⟨k + 1, s ++ [p.b], by simp [S_size] at hss ⊢; omega, by omega, by go_num, congrArg Value.string (S_append s [p.b]), HRR.out, Below.alloc (Below.alloc HB.out (by omega) _) (by simp; omega) _⟩
              case measure => simp [intOf]; omega
            | true =>
              cases r2 with
              | false =>
                rw [if_neg (by simp)] at hr
                have HRR := Lib.hid hr
                clear hr
                go_wp2_with (go_at_call 69; with_reducible first | (refine (C1.out _).mono ?_; rintro e w' ⟨rfl, rfl⟩) | (refine (C2.out _).mono ?_; rintro e w' ⟨rfl, rfl⟩))
                go_roundw
                case rel => exact ⟨k + 1, s ++ [p.b], by simp [S_size] at hss ⊢; omega, by omega, by go_num, congrArg Value.string (S_append s [p.b]), HRR.out, Below.alloc (Below.alloc (Below.alloc HB.out (by omega) _) (by simp; omega) _) (by simp; omega) _⟩
                case measure => simp [intOf]; omega
              | true =>
                rw [if_pos (by rfl)] at hr
                subst hr
                have CL := class_any (S s)
                rw [L_S] at CL
                cases hc : classL s with
                | none =>
                  rw [hc] at CL
                  have C3 := Lib.hid CL
                  have h2 : R2 = none := by rw [HR2.out]; show (classL s).map _ = none; rw [hc]; rfl
                  subst h2
                  clear CL hc
                  go_wp2_with (first | (go_at_call 69; with_reducible first | (refine (C1.out _).mono ?_; rintro e w' ⟨rfl, rfl⟩) | (refine (C2.out _).mono ?_; rintro e w' ⟨rfl, rfl⟩)) | (go_at_call 112; refine (C3.out _).mono ?_; rintro e w' ⟨hb3, rfl⟩))
                  go_ret3
                  exact ⟨(Below.alloc (Below.alloc HB.out (by omega) _) (by simp; omega) _).trans (hb3.mono (by simp; omega)), _, _, rfl⟩
                | some sp =>
                  rw [hc] at CL
                  have C3 := Lib.hid CL
                  have h2 : R2 = some (sp, k + 2) := by rw [HR2.out]; show (classL s).map _ = some (sp, k + 2); rw [hc]; rfl
                  subst h2
                  clear CL hc
                  go_wp2_with (first | (go_at_call 69; with_reducible first | (refine (C1.out _).mono ?_; rintro e w' ⟨rfl, rfl⟩) | (refine (C2.out _).mono ?_; rintro e w' ⟨rfl, rfl⟩)) | (go_at_call 112; refine (C3.out _).mono ?_; rintro e w' ⟨hb3, v3, rfl, hs3⟩))
                  go_ret3
                  exact ⟨(Below.alloc (Below.alloc HB.out (by omega) _) (by simp; omega) _).trans (hb3.mono (by simp; omega)), v3, rfl, hs3⟩
          · have hr0 : R = none := by
              rw [hr]
              match hd : (x :: y :: t).drop k with
              | [] => rfl
              | [z] => rfl
              | z :: z' :: u =>
                have := congrArg List.length hd
                rw [List.length_drop, HN.out] at this
                simp at this; omega
            have h2 : R2 = none := by rw [HR2.out, hr0]
            subst h2
            clear hr hr0
            go_wp2
            go_ret3
            exact ⟨hb, _, _, rfl⟩
end Go.Proofs.YtjeinpadcknfbaaGreatDoor
namespace Go.Proofs.YtjeinpadcknfbaaGreatDoor
open Go.RowKit

theorem classL_pos {n : List UInt8} {sp : List Span} (h : classL n = some sp) : 0 < sp.length ∧ sp.length ≤ 4 := by
  unfold classL at h
  by_cases h0 : n = nmAlpha
  · rw [if_pos h0] at h; cases h; decide
  rw [if_neg h0] at h
  by_cases h1 : n = nmDigit
  · rw [if_pos h1] at h; cases h; decide
  rw [if_neg h1] at h
  by_cases h2 : n = nmAlnum
  · rw [if_pos h2] at h; cases h; decide
  rw [if_neg h2] at h
  by_cases h3 : n = nmUpper
  · rw [if_pos h3] at h; cases h; decide
  rw [if_neg h3] at h
  by_cases h4 : n = nmLower
  · rw [if_pos h4] at h; cases h; decide
  rw [if_neg h4] at h
  by_cases h5 : n = nmSpace
  · rw [if_pos h5] at h; cases h; decide
  rw [if_neg h5] at h
  by_cases h6 : n = nmBlank
  · rw [if_pos h6] at h; cases h; decide
  rw [if_neg h6] at h
  by_cases h7 : n = nmPunct
  · rw [if_pos h7] at h; cases h; decide
  rw [if_neg h7] at h
  by_cases h8 : n = nmXdigit
  · rw [if_pos h8] at h; cases h; decide
  rw [if_neg h8] at h
  by_cases h9 : n = nmCntrl
  · rw [if_pos h9] at h; cases h; decide
  rw [if_neg h9] at h
  by_cases h10 : n = nmPrint
  · rw [if_pos h10] at h; cases h; decide
  rw [if_neg h10] at h
  by_cases h11 : n = nmGraph
  · rw [if_pos h11] at h; cases h; decide
  rw [if_neg h11] at h
  cases h
theorem namedS_pos {l : List Sg} {sp : List Span} {k : Nat} (h : namedS l = some (sp, k)) : 0 < sp.length ∧ sp.length ≤ 4 := by
  match l, h with
  | a :: b :: l, h =>
    rw [namedS] at h
    split at h
    · split at h
      · rename_i n k' h2
        obtain ⟨x, hx1, hx⟩ := Option.map_eq_some_iff.1 h
        cases hx
        exact classL_pos hx1
      · cases h
    · cases h

def partC (kind b : Int) (neg : Bool) (sv : Value) : Array Value := #[.int .u8 kind, .int .u8 b, .bool neg, sv]
structure PInv (w0 wr : World) (neg : Bool) (sv : Value) (sp : List Span) : Prop where
  res : Blk wr w0.heap.size 137 (partC 0 0 false (.slice none 0 0))
  blk : Blk wr (w0.heap.size + 1) 137 (partC 91 0 neg sv)
  own : wr.ownsRow (w0.heap.size + 2) 154 2 sv sp.length (sp.flatMap spanC)
  bel : Below w0.heap.size w0 wr

theorem PInv.size {w0 wr : World} {neg : Bool} {sv : Value} {sp : List Span} (h : PInv w0 wr neg sv sp) : w0.heap.size + 1 < wr.heap.size := h.blk.lt
theorem PInv.next {w0 wr w' : World} {neg : Bool} {sv : Value} {sp : List Span} (h : PInv w0 wr neg sv sp) (hb : Below wr.heap.size wr w') : PInv w0 w' neg sv sp := by
  have := h.size
  exact ⟨h.res.below hb (by omega), h.blk.below hb (by omega), own_below h.own hb, h.bel.trans (hb.mono (by omega))⟩
theorem PInv.push {w0 wr w1 : World} {neg : Bool} {sv : Value} {sp : List Span} (h : PInv w0 wr neg sv sp) {g n cap : Nat} (sp' : List Span) (hn : n = sp.length + sp'.length) (hown : w1.ownsRow (w0.heap.size + 2) 154 2 (.slice (some ⟨g, 0, none⟩) n cap) n (sp.flatMap spanC ++ sp'.flatMap spanC))
    (hg : wr.grownBy w1 sv.ownBlock) : PInv w0 (w1.setCell ⟨w0.heap.size + 1, 3, none⟩ (.slice (some ⟨g, 0, none⟩) n cap)) neg (.slice (some ⟨g, 0, none⟩) n cap) (sp ++ sp') := by
  have hz := h.size
  refine ⟨(h.res.grown hg (own_ne h.own (by omega))).far (by simp) _, (h.blk.grown hg (own_ne h.own (by omega))).put 3 _, own_far ?_ (by simp) _, (h.bel.grown hg (by omega) fun k hk => by have := (World.ownsRow.lt h.own k hk).1; omega).setCell (by simp) _⟩
  rw [List.length_append, ← hn, List.flatMap_append]
  exact hown
theorem PInv.start (w : World) (neg : Bool) : PInv w ((w.alloc (.cells (partC 0 0 false (.slice none 0 0)) 137)).alloc (.cells (partC 91 0 neg (.slice none 0 0)) 137)) neg (.slice none 0 0) [] := by
  have h1 := Blk.new (w.alloc (.cells (partC 0 0 false (.slice none 0 0)) 137)) 137 (partC 91 0 neg (.slice none 0 0))
  rw [show (w.alloc (.cells (partC 0 0 false (.slice none 0 0)) 137)).heap.size = w.heap.size + 1 by simp] at h1
  exact ⟨(Blk.new w _ _).alloc _, h1, World.ownsRow_nil _ _ _ _, Below.alloc (Below.alloc (Below.refl _ _) (Nat.le_refl _) _) (by simp) _⟩
theorem PInv.neg_ {w0 wr : World} {neg : Bool} {sv : Value} {sp : List Span} (h : PInv w0 wr neg sv sp) (b : Bool) : PInv w0 (wr.setCell ⟨w0.heap.size + 1, 2, none⟩ (.bool b)) b sv sp :=
  ⟨h.res.far (by simp) _, h.blk.put 2 _, own_far h.own (by simp) _, h.bel.setCell (by simp) _⟩

/-- What set returns: the part in its block, and two slots. -/
theorem set_results {w : World} {b : Nat} {tmps : Array Value} {x y : Int} {neg : Bool} {sv : Value} (h2 : tmps[2]?.getD undef = .pointer (some ⟨b, 0, none⟩)) (h : Blk w b 137 (partC x y neg sv)) :
    (results Tryz.f70 tmps).run Tryz.prog w = .ok (.tuple #[.agg (partC x y neg sv), tmps.getD 3 undef, tmps.getD 4 undef]) w := by
  have q0 := h.cell 0
  have q1 := h.cell 1
  have q2 := h.cell 2
  have q3 := h.cell 3
  simp [partC] at q0 q1 q2 q3
  simp [results, Tryz.results70, go_sem, h2, q0, q1, q2, q3, partC]
theorem spans_one (sp : List Span) : ∀ u ∈ sp.flatMap spanC, u.oneCell' = true := by
  intro u hu
  obtain ⟨s, _, hs⟩ := List.mem_flatMap.1 hu
  simp [spanC] at hs
  rcases hs with rfl | rfl <;> rfl
theorem PInv.facts {w0 wr : World} {neg : Bool} {sv : Value} {sp : List Span} (h : PInv w0 wr neg sv sp) : wr.cell? ⟨w0.heap.size + 1, 3, none⟩ = some sv ∧ wr.frozen? ⟨w0.heap.size + 1, 3, none⟩ = false := ⟨by rw [h.blk.cell 3]; rfl, h.blk.free 3⟩
theorem PInv.facts_grown {w0 wr w1 : World} {neg : Bool} {sv : Value} {sp : List Span} (h : PInv w0 wr neg sv sp) (hg : wr.grownBy w1 sv.ownBlock) : w1.cell? ⟨w0.heap.size + 1, 3, none⟩ = some sv ∧ w1.frozen? ⟨w0.heap.size + 1, 3, none⟩ = false := by
  have hb := h.blk.grown hg (own_ne h.own (by omega))
  exact ⟨by rw [hb.cell 3]; rfl, hb.free 3⟩
/-- The signs from k on. -/
theorem sgs_cut {w : World} {B : Nat} {v : Value} {l : List Sg} (h : Sl w B 2 v l.length (l.flatMap sgC)) {k : Nat} (hk : k ≤ l.length) :
    ∃ v', (∀ (w' : World), (Instr.slice 131 v (some (.int .i64 (k : Int))) none none).run Tryz.prog w' = .ok v' w') ∧ Sl w B 2 v' (l.drop k).length ((l.drop k).flatMap sgC) := by
  obtain ⟨v', h1, h2⟩ := h.cut (P := Tryz.prog) 131 134 Tryz.underlying131 (by kernel_rfl) hk
  rw [flat_drop sgC 2 sgC_len, ← List.length_drop] at h2
  exact ⟨v', h1, h2⟩
end Go.Proofs.YtjeinpadcknfbaaGreatDoor
