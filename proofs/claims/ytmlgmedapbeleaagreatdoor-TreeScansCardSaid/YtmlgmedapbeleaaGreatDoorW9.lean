/-
  What Scan finds, plain: each item once.
-/
import Derived.Test.YtmlgmedapbeleaaGreatDoorW8
import Derived.Deep.RegionWith
import Derived.Test.YtmlgmedapbeleaaGreatDoorW1
import Derived.ProofKit
import Derived.SizedLaws
import Derived.Deep.Slices
import Derived.Deep.Fields
import Derived.Test.YtmlgmedapbeleaaGreatDoorW4
import Derived.Test.YtmlgmedapbeleaaGreatDoorW5
import Derived.Deep.RegionHeld3
import Derived.Deep.QuietTactic
import Derived.BigQuiet
import Derived.Lib.QuietBelow
import Derived.Test.YtmlgmedapbeleaaGreatDoorW7
set_option linter.unusedVariables false
set_option linter.unusedSimpArgs false
/-
  The walks of the anchor, of short and right, and of the statement TreeChecks.
-/
namespace Go.Proofs.YtmlgmedapbeleaaGreatDoor
open Go.RowKit

theorem shortL_any (l : List It) (v : Value) (w : World) (hl : Tr w w.heap.size v l) (hz : ∀ x ∈ l, x.p.size ≤ 140737488355327 ∧ x.d.size ≤ 140737488355327 ∧ x.s.size ≤ 140737488355327) :
    Calls Tryz.prog 5 #[v] w fun e w' => e = .returned (.bool (shortB l)) ∧ Below w.heap.size w w' := by
  have C := Lib.hid (short_any l v w hl hz)
  clear hl hz
  go_enter Tryz.func5, Tryz.ntmps5
  go_wp2_with fail
  refine C.out.mono ?_
  rintro e w1 ⟨rfl, hb⟩
  go_wp2
  go_ret
  exact ⟨rfl, hb⟩

/-! ### the document's example -/
def s_a : ByteArray := ⟨#[97]⟩
def s_b : ByteArray := ⟨#[98]⟩
def s_x : ByteArray := ⟨#[120]⟩
def anc1 : List It := [⟨s_a, 1, 0, s_x, ⟨#[]⟩⟩, ⟨s_b, 1, 0, ⟨#[]⟩, s_a⟩]
def anc2 : List It := [⟨s_a, 1, 0, ⟨#[]⟩, s_b⟩, ⟨s_b, 1, 0, s_x, ⟨#[]⟩⟩]
theorem anc1_ok : Chk anc1 0 0 := .inr (.inl ⟨by simp [anc1], by
  intro i hi
  match i, hi with
  | 0, _ => decide +kernel
  | 1, _ => decide +kernel, rfl, rfl⟩)
theorem anc2_bad : Chk anc2 22 0 := .inr (.inr ⟨by simp [anc2], fun i hi => by omega, by decide +kernel, by decide⟩)

set_option maxHeartbeats 1000000 in
theorem anchor_any (w : World) (hv : Held w) : Calls Tryz.prog 4 #[] w fun e w' => e = .returned (.bool true) ∧ Below w.heap.size w w' := by
  have HV := Lib.hid hv
  have C : Hid (∀ W (l : List It) (r : Int) (j : Nat) (v : Value), Below w.heap.size w W → Tr W W.heap.size v l → (l = anc1 ∨ l = anc2) → Chk l r j → Calls Tryz.prog 10 #[v] W fun e w' => e = .returned (.tuple #[.int .i64 r, .int .i64 (j : Int)]) ∧ Below W.heap.size W w') := Lib.hid fun W l r j v hW hl hc hr => by
    refine (check_any l v W (HV.out.below HV.out.2 hW) hl (by rcases hc with rfl | rfl <;> decide) (by
      rcases hc with rfl | rfl
      · intro x hx; simp [anc1] at hx; rcases hx with rfl | rfl <;> decide
      · intro x hx; simp [anc2] at hx; rcases hx with rfl | rfl <;> decide)).mono ?_
    rintro e w' ⟨r2, j2, h1, h2, h3⟩
    obtain ⟨rfl, rfl⟩ := hr.same h1
    exact ⟨h2, h3⟩
  clear hv
  go_enter Tryz.func4, Tryz.ntmps4
  go_wp2_with fail
  refine (C.out _ anc1 0 0 _ (by go_grown) (by exact sl_made_at w _ _ 2 5 rfl (by unfold maxLen; omega) rfl) (.inl rfl) anc1_ok).mono ?_
  rintro e w1 ⟨rfl, hb1⟩
  have HB1 : Hid (Below w.heap.size w w1) := Lib.hid ((Below.alloc (Below.refl _ _) (Nat.le_refl _) _).trans (hb1.mono (by simp)))
  clear hb1
  go_wp2_with fail
  refine (C.out _ anc2 22 0 _ (HB1.out.alloc HB1.out.size _) (by exact sl_made_at w1 _ _ 2 5 rfl (by unfold maxLen; omega) rfl) (.inr rfl) anc2_bad).mono ?_
  rintro e w2 ⟨rfl, hb2⟩
  have HB2 : Hid (Below w.heap.size w w2) := Lib.hid ((HB1.out.alloc HB1.out.size _).trans (hb2.mono (by have := HB1.out.size; simp; omega)))
  clear hb2
  go_wp2
  go_ret
  exact ⟨rfl, HB2.out⟩
end Go.Proofs.YtmlgmedapbeleaaGreatDoor
/-
  The walk of the statement TreeChecks.
-/
namespace Go.Proofs.YtmlgmedapbeleaaGreatDoor
open Go.RowKit

theorem tops_at {l : List It} {k : Nat} {x : It} (h : l[k]? = some x) (hs : slB (L x.p) = true) : (topsL l)[(topsL (l.take k)).length]? = some x.p := by
  have h1 := tops_snoc h
  rw [if_pos hs] at h1
  have h2 : topsL l = topsL (l.take (k + 1)) ++ topsL (l.drop (k + 1)) := by
    conv => lhs; rw [← List.take_append_drop (k + 1) l]
    rw [topsL, topsL, topsL, List.filter_append, List.map_append]
  rw [h2, h1, List.append_assoc, List.getElem?_append_right (Nat.le_refl _), Nat.sub_self]; rfl
theorem bytes_wts (l : List It) : bytesL l ≤ wts l := by
  induction l with
  | nil => exact Nat.le_refl _
  | cons x l ih =>
    have e1 : bytesL (x :: l) = x.d.size + bytesL l := by simp [bytesL]
    have e2 : wts (x :: l) = wt x + wts l := by simp [wts]
    have e3 : wt x = x.p.size + x.d.size + x.s.size := rfl
    omega

theorem idx_str (n T : Nat) (h : T < n) (g cap : Nat) (w : World) : (Instr.indexAt 118 (.slice (some ⟨g, 0, none⟩) n cap) (.int .i64 (T : Int))).run Tryz.prog w = .ok (.pointer (some ⟨g, T, none⟩)) w := by
  have he : Tryz.prog.elem 118 = 9 := by simp [Program.elem, Tryz.underlying118]
  rw [run_indexAt_slice _ _ _ _ _ _ _ (by rw [he]; exact Tryz.underlying118), if_pos ⟨by omega, by omega⟩, he]
  obtain ⟨i0, hi, hi1⟩ := Option.map_eq_some_iff.1 (show (Tryz.prog.info? 9).map (·.size) = some 1 by kernel_rfl)
  simp [sizeOf, typeInfo, hi, hi1, Result.andThen, addr_add]

end Go.Proofs.YtmlgmedapbeleaaGreatDoor
/-
  The frame of a law's proof: what its arguments are when the call begins; that they read behind the call as they did.
-/
namespace Go.Proofs.YtmlgmedapbeleaaGreatDoor
open Go.ChangeShapes Go.WideShapes Go.ChangeAt Go.RowKit

theorem Tryz.own : ownKnob Tryz.prog.godebug = none := by kernel_rfl
theorem Tryz.laidOut : laidOutB Tryz.prog = true := by kernel_rfl

/-- All arguments read behind the call as before, where nothing has turned that was there. -/
theorem below_trodAll {H : Type} {enc : TypeId × Value → H} {P : Program} (hl : laidOutB P = true) {W W' : World} (hb : Below W.heap.size W W') :
    ∀ (ts : List TypeId) (vs : List Value) (ds : List (DataW H)) (ps : List MemPlace), (∀ t ∈ ts, P.readableRec t = true) → (∀ t ∈ ts, t < P.types.size) → (∀ x ∈ ps, x.block < W.heap.size) →
      DataW.TrodAll enc P W 0 (fun _ => true) true ts vs ds ps → DataW.TrodAll enc P W' 0 (fun b => decide (b < W.heap.size)) true ts vs ds ps := by
  intro ts
  induction ts with
  | nil =>
    intro vs ds ps _ _ _ h
    obtain ⟨rfl, rfl, rfl⟩ := trodAll_nil h
    rfl
  | cons t ts ih =>
    intro vs ds ps h1 h2 h3 h
    obtain ⟨v, vs', d, ds', p, q, rfl, rfl, rfl, ht, hts⟩ := trodAll_cons h
    exact trodAll_cons_mk (Below.trod hl (h1 t (by simp)) (h2 t (by simp)) ht hb (fun x hx => h3 x (by simp [hx])))
      (ih vs' ds' q (fun t ht => h1 t (by simp [ht])) (fun t ht => h2 t (by simp [ht])) (fun x hx => h3 x (by simp [hx])) hts)

section
variable {H : Type} {enc : TypeId × Value → H} {P : Program} {W : World}

/-- A slice of strings that came in. -/
theorem open_strs {t e : TypeId} {v : Value} {d : DataW H} {p : List MemPlace} (ht : P.underlying t = some (.slice e)) (he : P.underlying e = some .string) (hc : P.cellsOf e = 1) {r : Reach} {base : Nat}
    (hok : Value.okWide P W r base t v) (h : DataW.Trod enc P W 0 (fun _ => true) true t v d p) (hlt : ∀ x ∈ p, x.block < W.heap.size) :
    ∃ a n cap ss, v = .slice a n cap ∧ Elems W W.heap.size a n ((ss : List ByteArray).map Value.string) ∧ ∀ s ∈ ss, s.size ≤ maxLen := by
  obtain ⟨a0, len, cap, rfl⟩ := okWide_slice ht hok
  obtain ⟨fuel, hf⟩ := h
  rcases open_strings ht he hc hf with ⟨hcs, hx⟩ | ⟨a, len', cap', ss, hcs, _, hl, hm, hz, hx, hcell, hws⟩
  · simp [Value.cells] at hcs
    obtain ⟨rfl, rfl, rfl⟩ := hcs
    exact ⟨none, 0, 0, [], rfl, ⟨rfl, Nat.zero_le _, .inl rfl⟩, by simp⟩
  · simp [Value.cells] at hcs
    obtain ⟨rfl, rfl, rfl⟩ := hcs
    simp only [Prod.mk.injEq] at hx
    obtain ⟨rfl, rfl⟩ := hx
    simp only [if_true] at hz
    refine ⟨some a, len, cap, ss.take len, rfl, ⟨by simp; omega, by omega, ?_⟩, fun s hs => hws s (List.mem_of_mem_take hs)⟩
    by_cases hl0 : len = 0
    · exact .inl hl0
    · obtain ⟨b, off, spot⟩ := a
      have hspot : spot = none := by simpa [Addr.add] using World.cell?_spot (hcell 0 (by omega))
      subst hspot
      refine .inr ⟨b, off, rfl, hlt (.cell b off) (MemPlace.mem_row.2 ⟨0, by omega, by simp⟩), fun i hi => ?_⟩
      rw [← addr_add, hcell i (by omega)]
      simp [hi, List.getD, List.getElem?_eq_getElem (show i < ss.length by omega)]

/-- The same; and no string is longer than the call's reach. -/
theorem open_strs_z {t e : TypeId} {v : Value} {d : DataW H} {p : List MemPlace} (ht : P.underlying t = some (.slice e)) (he : P.underlying e = some .string) (hc : P.cellsOf e = 1) {r : Reach} {base : Nat}
    (hok : Value.okWide P W r base t v) (h : DataW.Trod enc P W 0 (fun _ => true) true t v d p) (hlt : ∀ x ∈ p, x.block < W.heap.size) {Z : Nat} (hz : ∀ n ∈ d.weights P t, n ≤ Z) :
    ∃ a n cap ss, v = .slice a n cap ∧ Elems W W.heap.size a n ((ss : List ByteArray).map Value.string) ∧ ∀ s ∈ ss, s.size ≤ Z := by
  obtain ⟨a0, len, cap, rfl⟩ := okWide_slice ht hok
  obtain ⟨fuel, hf⟩ := h
  rcases open_strings ht he hc hf with ⟨hcs, hx⟩ | ⟨a, len', cap', ss, hcs, _, hl, hm, hz2, hx, hcell, hws⟩
  · simp [Value.cells] at hcs
    obtain ⟨rfl, rfl, rfl⟩ := hcs
    exact ⟨none, 0, 0, [], rfl, ⟨rfl, Nat.zero_le _, .inl rfl⟩, by simp⟩
  · simp [Value.cells] at hcs
    obtain ⟨rfl, rfl, rfl⟩ := hcs
    simp only [Prod.mk.injEq] at hx
    obtain ⟨rfl, rfl⟩ := hx
    simp only [if_true] at hz2
    refine ⟨some a, len, cap, ss.take len, rfl, ⟨by simp; omega, by omega, ?_⟩, fun s hs => ?_⟩
    · by_cases hl0 : len = 0
      · exact .inl hl0
      · obtain ⟨b, off, spot⟩ := a
        have hspot : spot = none := by simpa [Addr.add] using World.cell?_spot (hcell 0 (by omega))
        subst hspot
        refine .inr ⟨b, off, rfl, hlt (.cell b off) (MemPlace.mem_row.2 ⟨0, by omega, by simp⟩), fun i hi => ?_⟩
        rw [← addr_add, hcell i (by omega)]
        simp [hi, List.getD, List.getElem?_eq_getElem (show i < ss.length by omega)]
    · refine hz _ ?_
      have key : ∀ l : List ByteArray, s ∈ l → s.size ∈ DataW.weightsAll P e (strs l : List (DataW H)) := by
        intro l
        induction l with
        | nil => intro h; simp at h
        | cons x l ih =>
          intro h
          simp only [strs, List.map_cons, DataW.weightsAll, DataW.weights]
          rcases List.mem_cons.1 h with rfl | h
          · exact List.mem_append_left _ (by simp)
          · exact List.mem_append_right _ (ih h)
      simp only [DataW.weights, ht]
      exact List.mem_cons_of_mem _ (List.mem_append_left _ (key _ hs))
end

/-- A law's end: it has returned true, and nothing has turned that was there. -/
theorem law_post {H : Type} {enc : TypeId × Value → H} {fn : Func} {s : ChangeSpec} {W W' : World} {args : Array Value} {ds : List (DataW H)} {p : List MemPlace}
    (hv : s.vars = []) (hs : s.fn H (ds ++ []) = { results := [.lit (.bool true)], args := ds }) (hres : fn.resultTypes = #[4])
    (hr : fn.params.toList.all (fun t => Tryz.prog.readableRec t && decide (t < Tryz.prog.types.size)) = true)
    (hW : DataW.Whole enc Tryz.prog fn.params.toList s.vars false W args.toList ds [] p)
    (hA : DataW.TrodAll enc Tryz.prog W 0 (fun _ => true) true fn.params.toList args.toList ds p) (hb : Below W.heap.size W W') :
    s.post enc Tryz.prog fn false true false false W args (.bool true) W' := by
  have hlt : ∀ x ∈ p, x.block < W.heap.size := fun x hx => by simpa using hW.lt x hx
  refine ⟨_, _, _, [], p, [], hW, ?_, ?_, ?_, hb.frame _, fun h => by cases h⟩
  · rw [hs, hres]; exact trodAll_mk1 (shut_bool Tryz.underlying4 true)
  · rw [hs]; exact below_trodAll Tryz.laidOut hb _ _ _ _ (fun t ht => (by simpa using (List.all_eq_true.1 hr) t ht : _ ∧ _).1) (fun t ht => (by simpa using (List.all_eq_true.1 hr) t ht : _ ∧ _).2) hlt hA
  · rw [hs, hv]; rfl
end Go.Proofs.YtmlgmedapbeleaaGreatDoor
/-
  A slice of structs that came in: its cells.
-/
namespace Go.Proofs.YtmlgmedapbeleaaGreatDoor
open Go.ChangeShapes Go.WideShapes Go.ChangeAt Go.RowKit Go.Deep

section
variable {H : Type} {enc : TypeId × Value → H} {P : Program} {W : World}

/-- Each element's each field lies in a cell of its own and can be read. -/
theorem open_structs {t e : TypeId} {fs : Array Field} {v : Value} {d : DataW H} {p : List MemPlace} (ht : P.underlying t = some (.slice e)) (he : P.underlying e = some (.struct fs)) (hone : oneCellFields P fs = true) (hC : P.cellsOf e = fs.size) (hpos : 0 < fs.size)
    {r : Reach} {base : Nat} (hok : Value.okWide P W r base t v) (h : DataW.Trod enc P W 0 (fun _ => true) true t v d p) (hlt : ∀ x ∈ p, x.block < W.heap.size) :
    ∃ a n cap, v = .slice a n cap ∧ n ≤ cap ∧ cap ≤ maxLen ∧ (n = 0 ∨ ∃ b off, a = some ⟨b, off, none⟩ ∧ b < W.heap.size ∧ ∀ i, i < n → ∀ (j : Nat) (f : Field), fs[j]? = some f →
      ∃ (u : Value) (y : DataW H × List MemPlace) (k : Nat), W.cell? ⟨b, off + (i * fs.size + j), none⟩ = some u ∧ DataW.trod enc P W 0 (fun _ => true) true k f.type [u] = some y) := by
  obtain ⟨a0, len, cap, rfl⟩ := okWide_slice ht hok
  obtain ⟨fuel, hf⟩ := h
  rcases open_slice ht hf with ⟨hcs, _⟩ | ⟨a, len', cap', m, n, D, Pl, hcs, _, hl, hm, hmm, hx, hi⟩
  · simp [Value.cells] at hcs
    obtain ⟨rfl, rfl, rfl⟩ := hcs
    exact ⟨none, 0, 0, rfl, Nat.le_refl _, Nat.zero_le _, .inl rfl⟩
  · simp [Value.cells] at hcs
    obtain ⟨rfl, rfl, rfl⟩ := hcs
    simp only [Prod.mk.injEq] at hx
    obtain ⟨rfl, rfl⟩ := hx
    simp only [if_true] at hmm
    replace hmm := hmm.symm
    subst hmm
    rw [hC] at hi hlt
    refine ⟨some a, len, cap, rfl, hl, hm, ?_⟩
    by_cases hl0 : len = 0
    · exact .inl hl0
    right
    -- every cell of the row, by its element and its field
    have cell : ∀ i, i < cap → ∀ (j : Nat) (f : Field), fs[j]? = some f → ∃ (u : Value) (y : DataW H × List MemPlace) (k : Nat), W.cell? ((a.add (i * fs.size)).add j) = some u ∧ DataW.trod enc P W 0 (fun _ => true) true k f.type [u] = some y := by
      intro i hic j f hj
      obtain ⟨cs, hc, hst⟩ := hi i hic
      obtain ⟨ys, k, _, _, _, hyl, hg⟩ := DataW.trod_struct he hst
      obtain ⟨_, hcl, hat⟩ := World.cells?_some hc
      obtain ⟨ho, hk⟩ := hone_of hone j f hj
      have hjl : j < fs.size := (Array.getElem?_eq_some_iff.1 hj).1
      have hg' := hg j f hj
      rw [ho, hk, List.drop_eq_getElem_cons (by omega), List.take_succ_cons, List.take_zero, List.getElem?_eq_getElem (by omega)] at hg'
      exact ⟨_, _, _, (hat j hjl).trans (List.getElem?_eq_getElem (by omega)), hg'⟩
    obtain ⟨b, off, spot⟩ := a
    obtain ⟨f0, hf0⟩ : ∃ f0, fs[0]? = some f0 := ⟨_, Array.getElem?_eq_getElem hpos⟩
    obtain ⟨u0, _, _, hu0, _⟩ := cell 0 (by omega) 0 f0 hf0
    have hspot : spot = none := by simpa [Addr.add] using World.cell?_spot hu0
    subst hspot
    refine ⟨b, off, rfl, hlt (.cell b off) (List.mem_append_left _ (MemPlace.mem_row.2 ⟨0, Nat.mul_pos (by omega) hpos, by simp⟩)), fun i hil j f hj => ?_⟩
    obtain ⟨u, y, k, h1, h2⟩ := cell i (by omega) j f hj
    rw [addr_add, addr_add] at h1
    exact ⟨u, y, k, by rw [← Nat.add_assoc]; exact h1, h2⟩

/-- The same; and what is read weighs no more than the whole. -/
theorem open_structs_z {t e : TypeId} {fs : Array Field} {v : Value} {d : DataW H} {p : List MemPlace} (ht : P.underlying t = some (.slice e)) (he : P.underlying e = some (.struct fs)) (hone : oneCellFields P fs = true) (hC : P.cellsOf e = fs.size) (hpos : 0 < fs.size)
    {r : Reach} {base : Nat} (hok : Value.okWide P W r base t v) (h : DataW.Trod enc P W 0 (fun _ => true) true t v d p) (hlt : ∀ x ∈ p, x.block < W.heap.size) {Z : Nat} (hz : ∀ n ∈ d.weights P t, n ≤ Z) :
    ∃ a n cap, v = .slice a n cap ∧ n ≤ cap ∧ cap ≤ maxLen ∧ n * P.bytesOf e ≤ Z ∧ (n = 0 ∨ ∃ b off, a = some ⟨b, off, none⟩ ∧ b < W.heap.size ∧ ∀ i, i < n → ∀ (j : Nat) (f : Field), fs[j]? = some f →
      ∃ (u : Value) (y : DataW H × List MemPlace) (k : Nat), W.cell? ⟨b, off + (i * fs.size + j), none⟩ = some u ∧ DataW.trod enc P W 0 (fun _ => true) true k f.type [u] = some y ∧ ∀ n ∈ y.1.weights P f.type, n ≤ Z) := by
  obtain ⟨a0, len, cap, rfl⟩ := okWide_slice ht hok
  obtain ⟨fuel, hf⟩ := h
  rcases open_slice ht hf with ⟨hcs, _⟩ | ⟨a, len', cap', m, n, D, Pl, hcs, _, hl, hm, hmm, hx, hi⟩
  · simp [Value.cells] at hcs
    obtain ⟨rfl, rfl, rfl⟩ := hcs
    exact ⟨none, 0, 0, rfl, Nat.le_refl _, Nat.zero_le _, by rw [Nat.zero_mul]; exact Nat.zero_le _, .inl rfl⟩
  · simp [Value.cells] at hcs
    obtain ⟨rfl, rfl, rfl⟩ := hcs
    simp only [Prod.mk.injEq] at hx
    obtain ⟨rfl, rfl⟩ := hx
    simp only [if_true] at hmm
    replace hmm := hmm.symm
    subst hmm
    rw [hC] at hi hlt
    refine ⟨some a, len, cap, rfl, hl, hm, Nat.le_trans (Nat.mul_le_mul_right _ (Nat.le_add_right len _)) (hz _ (by simp only [DataW.weights, ht, List.length_map, List.length_range]; exact List.mem_cons_self ..)), ?_⟩
    by_cases hl0 : len = 0
    · exact .inl hl0
    right
    -- every cell of the row, by its element and its field
    have cell : ∀ i, i < len → ∀ (j : Nat) (f : Field), fs[j]? = some f → ∃ (u : Value) (y : DataW H × List MemPlace) (k : Nat), W.cell? ((a.add (i * fs.size)).add j) = some u ∧ DataW.trod enc P W 0 (fun _ => true) true k f.type [u] = some y ∧ ∀ n ∈ y.1.weights P f.type, n ≤ Z := by
      intro i hic j f hj
      obtain ⟨cs, hc, hst⟩ := hi i (by omega)
      obtain ⟨ys, k, _, hxe, _, hyl, hg⟩ := DataW.trod_struct he hst
      obtain ⟨_, hcl, hat⟩ := World.cells?_some hc
      obtain ⟨ho, hk⟩ := hone_of hone j f hj
      have hjl : j < fs.size := (Array.getElem?_eq_some_iff.1 hj).1
      have hg' := hg j f hj
      rw [ho, hk, List.drop_eq_getElem_cons (by omega), List.take_succ_cons, List.take_zero, List.getElem?_eq_getElem (by omega)] at hg'
      refine ⟨_, _, _, (hat j hjl).trans (List.getElem?_eq_getElem (by omega)), hg', fun n hn => hz n ?_⟩
      have hD : D i = .agg (ys.map (·.1)) := congrArg Prod.fst hxe
      have key : ∀ (l : List (DataW H)) (x : DataW H), x ∈ l → ∀ n ∈ x.weights P e, n ∈ DataW.weightsAll P e l := by
        intro l
        induction l with
        | nil => intro x h; simp at h
        | cons a l ih =>
          intro x h n hn
          simp only [DataW.weightsAll]
          rcases List.mem_cons.1 h with rfl | h
          · exact List.mem_append_left _ hn
          · exact List.mem_append_right _ (ih x h n hn)
      simp only [DataW.weights, ht]
      refine List.mem_cons_of_mem _ (List.mem_append_left _ (key _ (D i) (List.mem_map.2 ⟨i, List.mem_range.2 hic, rfl⟩) n ?_))
      rw [hD]
      simp only [DataW.weights, he]
      exact DataW.weights_mem_each (j := j) (by simp [hj]) (by rw [List.getElem?_map, List.getElem?_eq_getElem (show j < ys.length by omega)]; rfl) n hn
    obtain ⟨b, off, spot⟩ := a
    obtain ⟨f0, hf0⟩ : ∃ f0, fs[0]? = some f0 := ⟨_, Array.getElem?_eq_getElem hpos⟩
    obtain ⟨u0, _, _, hu0, _, _⟩ := cell 0 (by omega) 0 f0 hf0
    have hspot : spot = none := by simpa [Addr.add] using World.cell?_spot hu0
    subst hspot
    refine ⟨b, off, rfl, hlt (.cell b off) (List.mem_append_left _ (MemPlace.mem_row.2 ⟨0, Nat.mul_pos (by omega) hpos, by simp⟩)), fun i hil j f hj => ?_⟩
    obtain ⟨u, y, k, h1, h2, h3⟩ := cell i hil j f hj
    rw [addr_add, addr_add] at h1
    exact ⟨u, y, k, by rw [← Nat.add_assoc]; exact h1, h2, h3⟩
end

/-- So many things, one for each number. -/
theorem list_of {α : Type} {Q : Nat → α → Prop} : ∀ (n : Nat), (∀ i, i < n → ∃ x, Q i x) → ∃ l : List α, l.length = n ∧ ∀ i x, l[i]? = some x → Q i x
  | 0, _ => ⟨[], rfl, by simp⟩
  | n + 1, h => by
    obtain ⟨l, hl, hq⟩ := list_of n fun i hi => h i (by omega)
    obtain ⟨x, hx⟩ := h n (by omega)
    refine ⟨l ++ [x], by simp [hl], fun i y hy => ?_⟩
    rw [List.getElem?_append] at hy
    split at hy
    · exact hq i y hy
    · have hi : i = n := by
        rcases Nat.lt_or_ge (i - l.length) 1 with h1 | h1
        · omega
        · rw [List.getElem?_eq_none (by simpa using h1)] at hy; cases hy
      subst hi
      rw [hl, Nat.sub_self] at hy
      simp at hy
      subst hy
      exact hx

/-- A slice whose cells are its elements', one by one. -/
theorem sl_of {α : Type} {w : World} {B size n cap b off : Nat} (f : α → List Value) (hf : ∀ x, (f x).length = size) (hs : 0 < size) {l : List α} (hl : l.length = n) (hc : n ≤ cap) (hm : cap ≤ maxLen) (hb : b < B)
    (h : ∀ i x, l[i]? = some x → ∀ j, j < size → w.cell? ⟨b, off + (i * size + j), none⟩ = (f x)[j]?) : Sl w B size (.slice (some ⟨b, off, none⟩) n cap) n (l.flatMap f) := by
  refine ⟨by rw [flat_len f size hf, hl], _, _, rfl, hc, hm, .inr ⟨b, off, rfl, hb, fun j hj => ?_⟩⟩
  have h1 : j / size < l.length := by rw [hl]; exact Nat.div_lt_of_lt_mul (by rw [Nat.mul_comm]; exact hj)
  have h2 : j % size < size := Nat.mod_lt _ hs
  have h3 : j / size * size + j % size = j := by rw [Nat.mul_comm]; exact Nat.div_add_mod j size
  have hx : l[j / size]? = some l[j / size] := List.getElem?_eq_getElem h1
  have e1 := h _ _ hx _ h2
  have e2 := flat_get f size hf l _ _ hx _ h2
  rw [h3] at e1 e2
  rw [e1, e2]
end Go.Proofs.YtmlgmedapbeleaaGreatDoor
/-
  A tree that came in: its items.
-/
namespace Go.Proofs.YtmlgmedapbeleaaGreatDoor
open Go.ChangeShapes Go.WideShapes Go.ChangeAt Go.RowKit Go.Deep

set_option maxRecDepth 100000 in
theorem open_its {H : Type} {enc : TypeId × Value → H} {W : World} {v : Value} {d : DataW H} {p : List MemPlace} {r : Reach} {base : Nat} (hok : Value.okWide Tryz.prog W r base 23 v) (h : DataW.Trod enc Tryz.prog W 0 (fun _ => true) true 23 v d p) (hlt : ∀ x ∈ p, x.block < W.heap.size)
    (hz : ∀ n ∈ d.weights Tryz.prog 23, n ≤ reachBytes) :
    ∃ l : List It, Tr W W.heap.size v l ∧ ∀ x ∈ l, x.p.size ≤ 140737488355327 ∧ x.d.size ≤ 140737488355327 ∧ x.s.size ≤ 140737488355327 := by
  obtain ⟨a, n, cap, rfl, hc, hm, hbz, h0⟩ := open_structs_z Tryz.underlying23 Tryz.underlying34 (by kernel_rfl) (by kernel_rfl) (by decide) hok h hlt hz
  have hr : reachBytes ≤ 140737488355327 := by decide
  rcases h0 with rfl | ⟨b, off, rfl, hb, hcell⟩
  · exact ⟨[], ⟨rfl, _, _, rfl, hc, hm, .inl rfl⟩, by simp⟩
  · obtain ⟨l, hl, hq⟩ := list_of (Q := fun i (x : It) => (W.cell? ⟨b, off + (i * 5 + 0), none⟩ = some (.string x.p) ∧ W.cell? ⟨b, off + (i * 5 + 1), none⟩ = some (.int .i64 x.k) ∧ W.cell? ⟨b, off + (i * 5 + 2), none⟩ = some (.int .i64 x.m) ∧ W.cell? ⟨b, off + (i * 5 + 3), none⟩ = some (.string x.d) ∧ W.cell? ⟨b, off + (i * 5 + 4), none⟩ = some (.string x.s)) ∧ x.p.size ≤ reachBytes ∧ x.d.size ≤ reachBytes ∧ x.s.size ≤ reachBytes) n fun i hi => by
      obtain ⟨u0, y0, k0, hc0, ht0, hw0⟩ := hcell i hi 0 _ rfl
      obtain ⟨u1, y1, k1, hc1, ht1, _⟩ := hcell i hi 1 _ rfl
      obtain ⟨u2, y2, k2, hc2, ht2, _⟩ := hcell i hi 2 _ rfl
      obtain ⟨u3, y3, k3, hc3, ht3, hw3⟩ := hcell i hi 3 _ rfl
      obtain ⟨u4, y4, k4, hc4, ht4, hw4⟩ := hcell i hi 4 _ rfl
      obtain ⟨s0, hs0, hy0, _⟩ := DataW.trod_string Tryz.underlying9 ht0
      obtain ⟨q1, hq1, _⟩ := DataW.trod_int Tryz.underlying3 ht1
      obtain ⟨q2, hq2, _⟩ := DataW.trod_int Tryz.underlying3 ht2
      obtain ⟨s3, hs3, hy3, _⟩ := DataW.trod_string Tryz.underlying9 ht3
      obtain ⟨s4, hs4, hy4, _⟩ := DataW.trod_string Tryz.underlying9 ht4
      simp at hs0 hq1 hq2 hs3 hs4
      subst hs0 hq1 hq2 hs3 hs4 hy0 hy3 hy4
      exact ⟨⟨s0, q1, q2, s3, s4⟩, ⟨hc0, hc1, hc2, hc3, hc4⟩, hw0 s0.size (by simp [DataW.weights]), hw3 s3.size (by simp [DataW.weights]), hw4 s4.size (by simp [DataW.weights])⟩
    subst hl
    refine ⟨l, sl_of itC itC_len (by decide) rfl hc hm hb fun i x hx j hj => ?_, fun p hp => ?_⟩
    · obtain ⟨⟨h1, h2, h3, h4, h5⟩, _⟩ := hq i x hx
      match j, hj with
      | 0, _ => exact h1
      | 1, _ => exact h2
      | 2, _ => exact h3
      | 3, _ => exact h4
      | 4, _ => exact h5
    · obtain ⟨i, hi, e⟩ := List.getElem_of_mem hp
      obtain ⟨_, h1, h2, h3⟩ := hq i p (by rw [List.getElem?_eq_getElem hi, e])
      exact ⟨Nat.le_trans h1 hr, Nat.le_trans h2 hr, Nat.le_trans h3 hr⟩
end Go.Proofs.YtmlgmedapbeleaaGreatDoor
/-
  Two trees that are the same: the walks of Same and of the statement's own same.
-/
namespace Go.Proofs.YtmlgmedapbeleaaGreatDoor
open Go.RowKit

def eqIt (modes : Bool) (x y : It) : Bool := (x.p.toList == y.p.toList) && (x.k == y.k) && (!modes || x.m == y.m) && (x.d.toList == y.d.toList) && (x.s.toList == y.s.toList)
/-- The same items. -/
def SameP (modes : Bool) (a b : List It) : Prop := a.length = b.length ∧ ∀ (i : Nat) (x y : It), a[i]? = some x → b[i]? = some y → eqIt modes x y = true
def sameTo (modes : Bool) (a b : List It) (k : Nat) : Prop := ∀ (i : Nat) (x y : It), i < k → a[i]? = some x → b[i]? = some y → eqIt modes x y = true
theorem sameTo_succ {modes : Bool} {a b : List It} {k : Nat} {x y : It} (h : sameTo modes a b k) (hx : a[k]? = some x) (hy : b[k]? = some y) (he : eqIt modes x y = true) : sameTo modes a b (k + 1) := fun i x' y' hi hx' hy' => by
  by_cases h1 : i < k
  · exact h i x' y' h1 hx' hy'
  · obtain rfl : i = k := by omega
    rw [hx] at hx'; rw [hy] at hy'
    cases hx'; cases hy'
    exact he
/-- b tells it. -/
def Says (b : Bool) (p : Prop) : Prop := b = true ↔ p
theorem Says.same {b c : Bool} {p : Prop} (h : Says b p) (h' : Says c p) : b = c := by
  cases b <;> cases c <;> simp_all [Says]

end Go.Proofs.YtmlgmedapbeleaaGreatDoor
/-
  The walks of Under, Less, name, first, one.
-/
namespace Go.Proofs.YtmlgmedapbeleaaGreatDoor
open Go.RowKit

/-- Does an item lie under a path, or at it? -/
def uB (x : It) (s : ByteArray) : Bool := (x.p.toList == s.toList) || underB (L x.p) (L s)
def lessL (l : List It) (s : ByteArray) : List It := l.filter fun x => !uB x s
theorem less_snoc {l : List It} {k : Nat} {x : It} (h : l[k]? = some x) (s : ByteArray) : lessL (l.take (k + 1)) s = if uB x s then lessL (l.take k) s else lessL (l.take k) s ++ [x] := by
  rw [lessL, take_snoc' h, List.filter_append]
  cases hb : uB x s <;> simp [hb, lessL]
theorem less_len (l : List It) (s : ByteArray) (k : Nat) : (lessL (l.take k) s).length ≤ k := Nat.le_trans (List.length_filter_le _ _) (by rw [List.length_take]; omega)

/-! ### one file -/
def fstS (x : It) : ByteArray := if L x.s = [] then x.p else x.s
def oneB (x y : It) : Bool := (x.k == 1) && (y.k == 1) && ((fstS x).toList == (fstS y).toList)
end Go.Proofs.YtmlgmedapbeleaaGreatDoor
/-
  A tree that is a part of another one: what it means; the walk of Part.
-/
namespace Go.Proofs.YtmlgmedapbeleaaGreatDoor
open Go.RowKit

def C1 (a t : List It) (x : It) : Prop := ∃ o, findV t (L x.p) = some o ∧ o.k = x.k ∧ contS t o = contS a x
def P2 (t : List It) (x y : It) : Prop := ∀ o o', findV t (L x.p) = some o → findV t (L y.p) = some o' → oneB x y = oneB o o'
def PartP (a t : List It) : Prop := (∀ (i : Nat) (x : It), a[i]? = some x → C1 a t x) ∧ ∀ (i j : Nat) (x y : It), a[i]? = some x → a[j]? = some y → P2 t x y
def c1To (a t : List It) (k : Nat) : Prop := ∀ (i : Nat) (x : It), i < k → a[i]? = some x → C1 a t x
def p2To (a t : List It) (x : It) (k : Nat) : Prop := ∀ (j : Nat) (y : It), j < k → a[j]? = some y → P2 t x y
def ppTo (a t : List It) (k : Nat) : Prop := ∀ (i : Nat) (x : It), i < k → a[i]? = some x → p2To a t x i
theorem beq_comm' (a b : List UInt8) : (a == b) = (b == a) := by
  by_cases h : a = b
  · subst h; rfl
  · rw [beq_eq_false_iff_ne.2 h, beq_eq_false_iff_ne.2 (Ne.symm h)]
theorem oneB_symm (x y : It) : oneB x y = oneB y x := by
  unfold oneB
  rw [Bool.and_comm (x.k == 1), beq_comm' (fstS x).toList]
theorem P2.symm {t : List It} {x y : It} (h : P2 t x y) : P2 t y x := fun o o' h1 h2 => by rw [oneB_symm y, oneB_symm o, h o' o h2 h1]
theorem P2.refl {a t : List It} {x : It} (h : C1 a t x) : P2 t x x := fun o o' h1 h2 => by
  obtain ⟨q, hq, hk, _⟩ := h
  rw [h1] at hq h2
  cases hq; cases h2
  unfold oneB
  rw [hk]
  simp
theorem part_of {a t : List It} (h1 : c1To a t a.length) (h2 : ppTo a t a.length) : PartP a t := by
  have hl : ∀ {i : Nat} {x : It}, a[i]? = some x → i < a.length := fun h => (List.getElem?_eq_some_iff.1 h).1
  refine ⟨fun i x hx => h1 i x (hl hx) hx, fun i j x y hx hy => ?_⟩
  rcases Nat.lt_trichotomy i j with h | h | h
  · exact (h2 j y (hl hy) hy i x h hx).symm
  · subst h
    rw [hx] at hy; cases hy
    exact P2.refl (h1 i x (hl hx) hx)
  · exact h2 i x (hl hx) hx j y h hy
theorem c1To_succ {a t : List It} {k : Nat} {x : It} (h : c1To a t k) (hx : a[k]? = some x) (hc : C1 a t x) : c1To a t (k + 1) := fun i y hi hy => by
  by_cases h1 : i < k
  · exact h i y h1 hy
  · obtain rfl : i = k := by omega
    rw [hx] at hy; cases hy; exact hc
theorem p2To_succ {a t : List It} {k : Nat} {x y : It} (h : p2To a t x k) (hy : a[k]? = some y) (hc : P2 t x y) : p2To a t x (k + 1) := fun i z hi hz => by
  by_cases h1 : i < k
  · exact h i z h1 hz
  · obtain rfl : i = k := by omega
    rw [hy] at hz; cases hz; exact hc
theorem ppTo_succ {a t : List It} {k : Nat} {x : It} (h : ppTo a t k) (hx : a[k]? = some x) (hc : p2To a t x k) : ppTo a t (k + 1) := fun i y hi hy => by
  by_cases h1 : i < k
  · exact h i y h1 hy
  · obtain rfl : i = k := by omega
    rw [hx] at hy; cases hy; exact hc

theorem tr_to2 {w : World} {B : Nat} {v : Value} {l : List It} (h : Tr w B v l) (T E : Nat) (hT : Tryz.prog.underlying T = some (.slice E)) (hs : (Tryz.prog.info? E).map (·.size) = some 5) {k : Nat} (hk : k ≤ l.length) :
    ∃ v', (∀ (w' : World), (Instr.slice T v none (some (.int .i64 (k : Int))) none).run Tryz.prog w' = .ok v' w') ∧ Sl w B 5 v' k ((l.take k).flatMap itC) := by
  obtain ⟨v', h1, h2⟩ := h.to (P := Tryz.prog) T E hT hs hk
  refine ⟨v', h1, ?_⟩
  have e : (l.flatMap itC).take (k * 5) = (l.take k).flatMap itC := by
    have e2 : l.flatMap itC = (l.take k).flatMap itC ++ (l.drop k).flatMap itC := by rw [← List.flatMap_append, List.take_append_drop]
    rw [e2, List.take_append_of_le_length (by rw [flat_len itC 5 itC_len, List.length_take]; omega), List.take_of_length_le (by rw [flat_len itC 5 itC_len, List.length_take]; omega)]
  rw [e] at h2
  exact h2

end Go.Proofs.YtmlgmedapbeleaaGreatDoor
/-
  The document's word on a tree that is a part of another one: the walk.
-/
namespace Go.Proofs.YtmlgmedapbeleaaGreatDoor
open Go.RowKit

theorem p2_kind {a t : List It} {x y : It} (hx : C1 a t x) (hy : C1 a t y) (h : ¬ (x.k = 1 ∧ y.k = 1)) : P2 t x y := fun o o' h1 h2 => by
  obtain ⟨q, hq, hk, _⟩ := hx
  rw [h1] at hq; cases hq
  obtain ⟨q, hq, hk', _⟩ := hy
  rw [h2] at hq; cases hq
  unfold oneB
  rw [hk, hk']
  by_cases h3 : x.k = 1
  · rw [show (y.k == 1) = false by simpa using fun h4 => h ⟨h3, h4⟩]; simp
  · rw [show (x.k == 1) = false by simpa using h3]; simp
theorem p2_iff {t : List It} {x y o o' : It} (hx : findV t (L x.p) = some o) (hy : findV t (L y.p) = some o') (h1 : x.k = 1) (h2 : y.k = 1) (h3 : o.k = 1) (h4 : o'.k = 1) :
    P2 t x y ↔ ((fstS x).toList == (fstS y).toList) = ((fstS o).toList == (fstS o').toList) := by
  have e1 : oneB x y = ((fstS x).toList == (fstS y).toList) := by simp [oneB, h1, h2]
  have e2 : oneB o o' = ((fstS o).toList == (fstS o').toList) := by simp [oneB, h3, h4]
  rw [← e1, ← e2]
  refine ⟨fun h => h o o' hx hy, fun h q q' hq hq' => ?_⟩
  rw [hx] at hq; rw [hy] at hq'
  cases hq; cases hq'; exact h
def allTo (a t : List It) (k : Nat) : Prop := ∀ (i : Nat) (x : It), i < k → a[i]? = some x → p2To a t x a.length
theorem allTo_succ {a t : List It} {k : Nat} {x : It} (h : allTo a t k) (hx : a[k]? = some x) (hc : p2To a t x a.length) : allTo a t (k + 1) := fun i y hi hy => by
  by_cases h1 : i < k
  · exact h i y h1 hy
  · obtain rfl : i = k := by omega
    rw [hx] at hy; cases hy; exact hc

end Go.Proofs.YtmlgmedapbeleaaGreatDoor
/-
  The walks of right and of the statement TreeParts.
-/
namespace Go.Proofs.YtmlgmedapbeleaaGreatDoor
open Go.RowKit

theorem rightL_any (l : List It) (v : Value) (w : World) (hl : Tr w w.heap.size v l) (h30 : l.length ≤ 30) (hz : ∀ x ∈ l, x.p.size ≤ 20000 ∧ x.d.size ≤ 20000 ∧ x.s.size ≤ 20000) :
    Calls Tryz.prog 6 #[v] w fun e w' => ∃ (r : Int) (i : Nat), Chk l r i ∧ e = .returned (.bool (r == 0)) ∧ Below w.heap.size w w' := by
  have CI := Lib.hid (items_any l v w hl h30)
  have CC : Hid (∀ W v', Tr W W.heap.size v' l → Calls Tryz.prog 12 #[v'] W (CkPost l W)) := Lib.hid fun W v' h => rcheck_any l v' W h h30 hz
  clear hl h30 hz
  go_enter Tryz.func6, Tryz.ntmps6
  go_wp2_with fail
  refine CI.out.mono ?_
  rintro e w1 ⟨v', rfl, ho, hb1⟩
  have HO := Lib.hid ho
  have HB1 := Lib.hid hb1
  clear ho hb1
  go_wp2_with fail
  refine (CC.out _ _ (Sl.of_own HO.out)).mono ?_
  rintro e w2 ⟨r, i, hc, rfl, hb2⟩
  have HB2 : Hid (Below w.heap.size w w2) := Lib.hid (HB1.out.trans (hb2.mono HB1.out.size))
  have HC := Lib.hid hc
  clear hb2 hc
  go_wp2
  go_ret
  exact ⟨r, i, HC.out, rfl, HB2.out⟩

theorem same_self (modes : Bool) (a : List It) : SameP modes a a := ⟨rfl, fun i x y hx hy => by
  rw [hx] at hy; cases hy
  unfold eqIt; simp⟩

end Go.Proofs.YtmlgmedapbeleaaGreatDoor
/-
  TreeFinds: the plain law, and the walk.
-/
namespace Go.Proofs.YtmlgmedapbeleaaGreatDoor
open Go.RowKit

section
variable {l : List It}
theorem ok_find (h : okTo l l.length) {k : Nat} {x : It} (hx : l[k]? = some x) : findI l (L x.p) = some k :=
  findI_at hx rfl fun j hj y hy => ok_ne h (show j ≠ k by omega) (List.getElem?_eq_some_iff.1 hy).1 (List.getElem?_eq_some_iff.1 hx).1 hy hx
theorem findI_take {k j : Nat} {t : List UInt8} (h : findI (l.take k) t = some j) : findI l t = some j := by
  obtain ⟨x, hx, hp, hno⟩ := findI_some h
  have hj := (List.getElem?_eq_some_iff.1 hx).1
  rw [List.length_take] at hj
  rw [List.getElem?_take_of_lt (by omega)] at hx
  exact findI_at hx hp fun i hi y hy => hno i hi y (by rw [List.getElem?_take_of_lt (by omega)]; exact hy)
theorem ok_link (h : okTo l l.length) {k : Nat} {x : It} (hx : l[k]? = some x) (hs : L x.s ≠ []) : ∃ j o, findI l (L x.s) = some j ∧ l[j]? = some o ∧ contS l x = contS l o := by
  have hk := (List.getElem?_eq_some_iff.1 hx).1
  have h0 := h k hk
  rw [itE_at hx] at h0
  unfold nextE at h0
  rw [if_neg (by rw [ok_alone h hk hx]; simp)] at h0
  have h1 : linkE (l.take k) x = 0 := by
    split at h0
    · cases h0
    · unfold upE at h0
      split at h0
      · exact h0
      · split at h0
        · split at h0
          · cases h0
          · exact h0
        · cases h0
  rw [linkE, if_neg hs] at h1
  cases hf : findI (l.take k) (L x.s) with
  | none => rw [findV_no hf] at h1; cases h1
  | some j =>
    obtain ⟨o, ho, _⟩ := findI_some hf
    have hj := (List.getElem?_eq_some_iff.1 ho).1
    rw [List.length_take] at hj
    rw [findI_at2 hf ho] at h1
    rw [List.getElem?_take_of_lt (by omega)] at ho
    have hos : L o.s = [] := by
      by_cases e : L o.s = []
      · exact e
      · simp only [] at h1
        rw [if_pos (.inr (.inl e))] at h1; cases h1
    refine ⟨j, o, findI_take hf, ho, ?_⟩
    rw [contS, if_neg hs, findI_at2 (findI_take hf) ho, contS, if_pos hos]
theorem ok_part (h : okTo l l.length) : PartP l l := by
  have hv : ∀ (k : Nat) (x : It), l[k]? = some x → findV l (L x.p) = some x := fun k x hx => findI_at2 (ok_find h hx) hx
  refine ⟨fun i x hx => ⟨x, hv i x hx, rfl, rfl⟩, fun i j x y hx hy o o' h1 h2 => ?_⟩
  rw [hv i x hx] at h1
  rw [hv j y hy] at h2
  cases h1; cases h2; rfl
theorem less_lt {k : Nat} {x : It} (hx : l[k]? = some x) : (lessL l x.p).length < l.length := by
  have h1 := List.length_filter_le (fun y => !uB y x.p) l
  rcases Nat.lt_or_ge (lessL l x.p).length l.length with h | h
  · exact h
  · have e : l.filter (fun y => !uB y x.p) = l := by
      have h2 : (l.filter (fun y => !uB y x.p)).length = l.length := Nat.le_antisymm h1 h
      exact List.filter_sublist.eq_of_length h2
    have hm := List.mem_of_getElem? hx
    have := List.filter_eq_self.1 e x hm
    simp [uB] at this
theorem plain_first {s : ByteArray} (h : plainB s = true) : L s ≠ [] ∧ (L s).getD 0 0 ≠ 47 := by
  obtain ⟨hn, _⟩ := plainB_names.1 h
  refine ⟨(namesL_facts hn).1, fun e => ?_⟩
  cases hl : L s with
  | nil => exact (namesL_facts hn).1 hl
  | cons c t =>
    rw [hl] at e hn
    have hc : c = 47 := e
    have := hn [] (by rw [hc, sp, if_pos rfl]; simp)
    exact absurd this (by decide)
theorem less_all (h : okTo l l.length) : lessL l ⟨#[]⟩ = l := by
  refine List.filter_eq_self.2 fun x hx => ?_
  obtain ⟨k, hk, e⟩ := List.getElem_of_mem hx
  have ha := ok_alone h hk (List.getElem?_eq_getElem hk)
  rw [e] at ha
  have hp : plainB x.p = true := by
    cases hp : plainB x.p with
    | true => rfl
    | false => rw [aloneE, if_pos hp] at ha; cases ha
  obtain ⟨h1, h2⟩ := plain_first hp
  have e1 : (x.p.toList == (⟨#[]⟩ : ByteArray).toList) = false := ne_L h1
  rw [uB, e1, underB]
  have e2 : ((L x.p).getD (L (⟨#[]⟩ : ByteArray)).length 0 == 47) = false := by simpa using h2
  rw [e2]; simp
theorem chk_ok {r : Int} {i : Nat} (h : Chk l r i) (hr : r = 0) : okTo l l.length := by
  rcases h with ⟨_, h2, _⟩ | ⟨_, h2, _⟩ | ⟨_, _, _, h2⟩
  · omega
  · exact h2
  · exact absurd hr h2
end

end Go.Proofs.YtmlgmedapbeleaaGreatDoor
/-
  The tree on the disk, plain: which node an item has, what a directory holds.
-/
namespace Go.Proofs.YtmlgmedapbeleaaGreatDoor
open Go.RowKit

/-- An item that has a node of its own. -/
def newB (x : It) : Bool := decide (L x.s = [])
def fs (l : List It) : List It := l.filter newB
/-- Whose node an item has. -/
def fstL (x : It) : List UInt8 := if L x.s = [] then L x.p else L x.s
/-- A node's place among those that items have made. -/
def nid (l : List It) (t : List UInt8) : Nat := (fs l).findIdx (fun y => decide (L y.p = t))
/-- The place of a directory's node, the root's is 0. -/
def dirI (l : List It) (t : List UInt8) : Nat := if t = [] then 0 else nid l t + 1
/-- What stands behind a path's last slash. -/
def nameS (s : ByteArray) : ByteArray := s.extract (lastL (L s) + 1).toNat s.size
/-- The entries of a directory behind k items. -/
def kidsE (l : List It) (k : Nat) (t : List UInt8) : List (ByteArray × Int) :=
  ((l.take k).filter (fun x => decide (upL (L x.p) = t))).map fun x => (nameS x.p, (nid l (fstL x) : Int) + 2)
theorem kidsE_succ {l : List It} {k : Nat} {x : It} (h : l[k]? = some x) (t : List UInt8) :
    kidsE l (k + 1) t = if upL (L x.p) = t then kidsE l k t ++ [(nameS x.p, (nid l (fstL x) : Int) + 2)] else kidsE l k t := by
  rw [kidsE, take_snoc' h, List.filter_append, List.map_append]
  by_cases e : upL (L x.p) = t
  · rw [if_pos e, List.filter_cons_of_pos (by simpa using e)]; rfl
  · rw [if_neg e, List.filter_cons_of_neg (by simpa using e)]; simp [kidsE]
theorem kidsE_len (l : List It) (k : Nat) (t : List UInt8) : (kidsE l k t).length ≤ k := by
  rw [kidsE, List.length_map]
  exact Nat.le_trans (List.length_filter_le _ _) (by rw [List.length_take]; omega)
theorem fs_succ {l : List It} {k : Nat} {x : It} (h : l[k]? = some x) : fs (l.take (k + 1)) = if L x.s = [] then fs (l.take k) ++ [x] else fs (l.take k) := by
  rw [fs, take_snoc' h, List.filter_append]
  by_cases e : L x.s = []
  · rw [if_pos e, List.filter_cons_of_pos (by simpa [newB] using e)]; rfl
  · rw [if_neg e, List.filter_cons_of_neg (by simpa [newB] using e)]; simp [fs]
theorem fs_take (l : List It) (k : Nat) : ∃ r, fs l = fs (l.take k) ++ r := ⟨fs (l.drop k), by rw [fs, fs, fs, ← List.filter_append, List.take_append_drop]⟩

/-- The nodes behind k items. -/
structure Inv (l : List It) (k : Nat) (ns : List Nd) : Prop where
  len : ns.length = (fs (l.take k)).length + 1
  root : ∃ n, ns[0]? = some n ∧ n.k = 2 ∧ n.e = kidsE l k [] ∧ 0 < n.n
  node : ∀ (a : Nat) (y : It), (fs (l.take k))[a]? = some y → ∃ n, ns[a + 1]? = some n ∧ n.k = y.k ∧ n.m = y.m ∧ n.d = y.d ∧ n.h = 0 ∧ 0 < n.n ∧ n.n ≤ k ∧ n.e = kidsE l k (L y.p)
end Go.Proofs.YtmlgmedapbeleaaGreatDoor
/-
  What may be a tree: each item's directory and first path lie ahead of it.
-/
namespace Go.Proofs.YtmlgmedapbeleaaGreatDoor
open Go.RowKit

structure Fit (l : List It) (k : Nat) (x : It) : Prop where
  plain : plainB x.p = true
  kind : x.k = 1 ∨ x.k = 2 ∨ x.k = 3
  mode : 0 ≤ x.m ∧ x.m ≤ 4095
  dir : x.k = 2 → L x.d = []
  same : x.k ≠ 1 → L x.s = []
  up : upL (L x.p) = [] ∨ ∃ a o, a < k ∧ l[a]? = some o ∧ L o.p = upL (L x.p) ∧ o.k = 2
  link : L x.s = [] ∨ ∃ a o, a < k ∧ l[a]? = some o ∧ L o.p = L x.s ∧ o.k = 1 ∧ L o.s = [] ∧ o.m = x.m ∧ L x.d = []

theorem findV_take {l : List It} {k : Nat} {t : List UInt8} {o : It} (h : findV (l.take k) t = some o) : ∃ a, a < k ∧ l[a]? = some o ∧ L o.p = t := by
  rw [findV_eq] at h
  cases hf : findI (l.take k) t with
  | none => rw [hf] at h; cases h
  | some a =>
    rw [hf] at h
    obtain ⟨y, hy, hp, _⟩ := findI_some hf
    have h' : (l.take k)[a]? = some o := h
    rw [hy] at h'
    cases h'
    have ha := (List.getElem?_eq_some_iff.1 hy).1
    rw [List.length_take] at ha
    rw [List.getElem?_take_of_lt (by omega)] at hy
    exact ⟨a, by omega, hy, hp⟩

theorem ok_fit {l : List It} (h : okTo l l.length) {k : Nat} {x : It} (hx : l[k]? = some x) : Fit l k x := by
  have hk := (List.getElem?_eq_some_iff.1 hx).1
  have ha := ok_alone h hk hx
  have h0 := h k hk
  rw [itE_at hx, nextE, if_neg (by rw [ha]; simp)] at h0
  have h1 : upE (l.take k) x = 0 := by
    split at h0
    · cases h0
    · exact h0
  have hp : plainB x.p = true := by
    cases hp : plainB x.p with
    | true => rfl
    | false => rw [aloneE, if_pos hp] at ha; cases ha
  rw [aloneE, if_neg (by rw [hp]; simp)] at ha
  have hk2 : ¬ (x.k < 1 ∨ 3 < x.k) := fun e => by rw [if_pos e] at ha; cases ha
  rw [if_neg hk2] at ha
  have hm2 : ¬ (x.m < 0 ∨ 4095 < x.m ∨ (x.k = 3 ∧ x.m ≠ 511)) := fun e => by rw [if_pos e] at ha; cases ha
  rw [if_neg hm2, bodyE] at ha
  have hb : ¬ ((x.k = 2 ∧ L x.d ≠ []) ∨ (x.k ≠ 1 ∧ L x.s ≠ [])) := fun e => by rw [if_pos e] at ha; cases ha
  have hl : linkE (l.take k) x = 0 := by
    unfold upE at h1
    split at h1
    · exact h1
    · split at h1
      · split at h1
        · cases h1
        · exact h1
      · cases h1
  refine ⟨hp, by omega, by omega, fun e => ?_, fun e => ?_, ?_, ?_⟩
  · exact Classical.byContradiction fun h' => hb (.inl ⟨e, h'⟩)
  · exact Classical.byContradiction fun h' => hb (.inr ⟨e, h'⟩)
  · by_cases e : upL (L x.p) = []
    · exact .inl e
    · right
      rw [upE, if_neg e] at h1
      cases hf : findV (l.take k) (upL (L x.p)) with
      | none => rw [hf] at h1; cases h1
      | some o =>
        rw [hf] at h1
        obtain ⟨a, ha1, ha2, ha3⟩ := findV_take hf
        refine ⟨a, o, ha1, ha2, ha3, Classical.byContradiction fun h' => ?_⟩
        simp only [] at h1
        rw [if_pos h'] at h1
        cases h1
  · by_cases e : L x.s = []
    · exact .inl e
    · right
      rw [linkE, if_neg e] at hl
      cases hf : findV (l.take k) (L x.s) with
      | none => rw [hf] at hl; cases hl
      | some o =>
        rw [hf] at hl
        obtain ⟨a, ha1, ha2, ha3⟩ := findV_take hf
        simp only [] at hl
        have hno : ¬ (o.k ≠ 1 ∨ L o.s ≠ [] ∨ o.m ≠ x.m ∨ L x.d ≠ []) := fun e' => by rw [if_pos e'] at hl; cases hl
        simp only [not_or, Classical.not_not] at hno
        exact ⟨a, o, ha1, ha2, ha3, hno.1, hno.2.1, hno.2.2.1, hno.2.2.2⟩
end Go.Proofs.YtmlgmedapbeleaaGreatDoor
/-
  What may be a tree, plain: the nodes' places, the names of a directory, in order.
-/
namespace Go.Proofs.YtmlgmedapbeleaaGreatDoor
open Go.RowKit

section
variable {l : List It}
theorem ok_pair (h : okTo l l.length) : l.Pairwise (fun x y => L x.p < L y.p) := by
  rw [List.pairwise_iff_getElem]
  intro i j hi hj hij
  exact ok_up h j i _ _ hij hj (List.getElem?_eq_getElem hi) (List.getElem?_eq_getElem hj)
theorem fs_pair (h : okTo l l.length) : (fs l).Pairwise (fun x y => L x.p < L y.p) := (ok_pair h).filter _
theorem nid_of (h : okTo l l.length) {a : Nat} {y : It} (hy : (fs l)[a]? = some y) : nid l (L y.p) = a := by
  obtain ⟨ha, e⟩ := List.getElem?_eq_some_iff.1 hy
  rw [nid, List.findIdx_eq ha]
  refine ⟨by simp [e], fun j hj => ?_⟩
  have := List.pairwise_iff_getElem.1 (fs_pair h) j a (by omega) ha hj
  rw [e] at this
  simp only [decide_eq_false_iff_not]
  intro e2
  rw [e2] at this
  exact lt_irrefl' _ this
theorem fs_mono {k a : Nat} {y : It} (hy : (fs (l.take k))[a]? = some y) : (fs l)[a]? = some y := by
  obtain ⟨r, hr⟩ := fs_take l k
  rw [hr, List.getElem?_append_left (List.getElem?_eq_some_iff.1 hy).1]
  exact hy
theorem fs_has (h : okTo l l.length) {k a : Nat} {y : It} (ha : a < k) (hy : l[a]? = some y) (hs : L y.s = []) : (fs (l.take k))[nid l (L y.p)]? = some y := by
  have hm : y ∈ fs (l.take k) := by
    rw [fs, List.mem_filter]
    exact ⟨List.mem_of_getElem? (i := a) (by rw [List.getElem?_take_of_lt ha]; exact hy), by simpa [newB] using hs⟩
  obtain ⟨b, hb⟩ := List.getElem?_of_mem hm
  have := nid_of h (fs_mono hb)
  rw [this]
  exact hb
theorem fs_len (k : Nat) : (fs (l.take k)).length ≤ k := Nat.le_trans (List.length_filter_le _ _) (by rw [List.length_take]; omega)
theorem nid_new (h : okTo l l.length) {k : Nat} {x : It} (hx : l[k]? = some x) (hs : L x.s = []) : nid l (L x.p) = (fs (l.take k)).length := by
  have h1 := fs_succ hx
  rw [if_pos hs] at h1
  have h2 : (fs (l.take (k + 1)))[(fs (l.take k)).length]? = some x := by rw [h1]; simp
  exact nid_of h (fs_mono h2)

/-- No item ahead of a path lies right below it. -/
theorem kids_none (h : okTo l l.length) {k j : Nat} {x : It} (hx : l[j]? = some x) (hk : k ≤ j + 1) (hp : L x.p ≠ []) : kidsE l k (L x.p) = [] := by
  rw [kidsE, List.map_eq_nil_iff, List.filter_eq_nil_iff]
  intro y hy
  obtain ⟨a, ha⟩ := List.getElem?_of_mem hy
  have hak := (List.getElem?_eq_some_iff.1 ha).1
  rw [List.length_take] at hak
  rw [List.getElem?_take_of_lt (by omega)] at ha
  have hj := (List.getElem?_eq_some_iff.1 hx).1
  simp only [decide_eq_true_eq]
  intro e
  rcases (ok_fit h ha).up with h1 | ⟨b, o, hb, ho, h2, _⟩
  · exact hp (e.symm.trans h1)
  · have := ok_up h j b o x (by omega) hj ho hx
    rw [h2, e] at this
    exact lt_irrefl' _ this

theorem lastTo_none (l : List UInt8) : ∀ (n j : Nat), j < n → lastTo l n < j → l.getD j 0 ≠ 47
  | 0, _, h, _ => by omega
  | n + 1, j, h, h2 => by
    by_cases e : l.getD n 0 = 47
    · rw [lastTo_yes e] at h2
      omega
    · rw [lastTo_no e] at h2
      by_cases e2 : j = n
      · rw [e2]; exact e
      · exact lastTo_none l n j (by omega) h2
theorem not_mem_of {m : List UInt8} (h : ∀ j, j < m.length → m.getD j 0 ≠ 47) : (47 : UInt8) ∉ m := fun hm => by
  obtain ⟨j, hj, e⟩ := List.getElem_of_mem hm
  exact h j hj (by simp [List.getD, List.getElem?_eq_getElem hj, e])
theorem plain_split {s : ByteArray} (h : plainB s = true) : nameB (L (nameS s)) = true ∧ ((lastL (L s) = -1 ∧ upL (L s) = [] ∧ nameS s = s) ∨ (∃ v : Nat, lastL (L s) = v ∧ v < s.size ∧ 0 < v ∧ upL (L s) = (L s).take v ∧ upL (L s) ≠ [] ∧ L s = upL (L s) ++ 47 :: L (nameS s))) := by
  obtain ⟨hn, hr⟩ := plainB_names.1 h
  have hpl := plain_first h
  rcases slTo_last (L s) (L s).length with ⟨e, hno⟩ | ⟨v, e, hv, hc, hlast⟩
  · have e' : lastL (L s) = -1 := e
    have hname : nameS s = s := by
      rw [nameS, e', S_extract_from]
      show S ((L s).drop 0) = s
      rw [List.drop_zero, S_L]
    rw [hname]
    refine ⟨hn _ ?_, .inl ⟨e', by rw [upL, e', if_pos (by omega)], rfl⟩⟩
    rw [sp_no (not_mem_of fun j hj => lastTo_none _ _ j hj (by rw [e]; omega))]
    exact List.mem_singleton.2 rfl
  · have e' : lastL (L s) = v := e
    have hname : L (nameS s) = (L s).drop (v + 1) := by
      rw [nameS, e', show ((v : Int) + 1).toNat = v + 1 by omega, S_extract_from, L_S]
    have hup : upL (L s) = (L s).take v := by rw [upL, e', if_neg (by omega)]; rfl
    have hcut := at_slash hv hc
    have hnn : (47 : UInt8) ∉ (L s).drop (v + 1) := not_mem_of fun j hj => by
      rw [List.length_drop] at hj
      have := lastTo_none (L s) (L s).length (v + 1 + j) (by omega) (by rw [e]; omega)
      simpa [List.getD, List.getElem?_drop] using this
    have hv0 : 0 < v := by
      rcases Nat.eq_zero_or_pos v with h0 | h0
      · subst h0; exact absurd hc hpl.2
      · exact h0
    refine ⟨?_, .inr ⟨v, e', by rw [L_size] at hv; exact hv, hv0, hup, ?_, ?_⟩⟩
    · rw [hname]
      refine hn _ ?_
      rw [hcut, sp_split]
      refine List.mem_append.2 (.inr ?_)
      have e3 : ((L s).take v ++ 47 :: (L s).drop (v + 1)).drop (v + 1) = (L s).drop (v + 1) := by rw [← hcut]
      rw [e3, sp_no hnn]
      exact List.mem_singleton.2 rfl
    · rw [hup]
      intro h0
      have := congrArg List.length h0
      rw [List.length_take, Nat.min_eq_left (Nat.le_of_lt hv)] at this
      exact absurd this (by rw [List.length_nil]; omega)
    · rw [hup, hname]
      exact hcut
theorem lt_cut : ∀ {u a b : List UInt8}, u ++ a < u ++ b → a < b
  | [], _, _, h => h
  | c :: u, a, b, h => by
    rw [List.cons_append, List.cons_append, List.cons_lt_cons_iff] at h
    rcases h with h | ⟨_, h⟩
    · exact absurd h (by simp)
    · exact lt_cut h
theorem names_up {s t : ByteArray} (hs : plainB s = true) (ht : plainB t = true) (h : L s < L t) (hu : upL (L s) = upL (L t)) : L (nameS s) < L (nameS t) := by
  obtain ⟨_, h1⟩ := plain_split hs
  obtain ⟨_, h2⟩ := plain_split ht
  rcases h1 with ⟨_, a1, a2⟩ | ⟨v, _, _, _, _, a1, a2⟩
  · rcases h2 with ⟨_, b1, b2⟩ | ⟨v', _, _, _, _, b1, b2⟩
    · rw [a2, b2]; exact h
    · exact absurd (hu.symm.trans a1) b1
  · rcases h2 with ⟨_, b1, b2⟩ | ⟨v', _, _, _, _, b1, b2⟩
    · exact absurd (hu.trans b1) a1
    · rw [a2, b2, hu] at h
      have := lt_cut h
      rw [List.cons_lt_cons_iff] at this
      rcases this with h | ⟨_, h⟩
      · exact absurd h (by simp)
      · exact h
/-- The names of a directory rise. -/
theorem kids_lt (h : okTo l l.length) {k : Nat} {x : It} (hx : l[k]? = some x) : ∀ y ∈ kidsE l k (upL (L x.p)), L y.1 < L (nameS x.p) := by
  intro y hy
  rw [kidsE, List.mem_map] at hy
  obtain ⟨z, hz, rfl⟩ := hy
  rw [List.mem_filter] at hz
  obtain ⟨hz, hu⟩ := hz
  obtain ⟨a, ha⟩ := List.getElem?_of_mem hz
  have hak := (List.getElem?_eq_some_iff.1 ha).1
  rw [List.length_take] at hak
  rw [List.getElem?_take_of_lt (by omega)] at ha
  simp only [decide_eq_true_eq] at hu
  have hk := (List.getElem?_eq_some_iff.1 hx).1
  exact names_up (ok_fit h ha).plain (ok_fit h hx).plain (ok_up h k a z x (by omega) hk ha hx) hu
end
end Go.Proofs.YtmlgmedapbeleaaGreatDoor
/-
  The nodes behind one item more, plain.
-/
namespace Go.Proofs.YtmlgmedapbeleaaGreatDoor
open Go.RowKit

section
variable {l : List It} {k : Nat} {ns : List Nd} {x : It}
theorem dir_at (h : okTo l l.length) (hI : Inv l k ns) (hx : l[k]? = some x) : ∃ n, ns[dirI l (upL (L x.p))]? = some n ∧ n.k = 2 ∧ n.e = kidsE l k (upL (L x.p)) := by
  by_cases hu : upL (L x.p) = []
  · obtain ⟨n, h1, h2, h3, _⟩ := hI.root
    exact ⟨n, by rw [dirI, if_pos hu]; exact h1, h2, by rw [hu]; exact h3⟩
  · rcases (ok_fit h hx).up with h1 | ⟨a, o, ha, ho, h1, h2⟩
    · exact absurd h1 hu
    · have hs : L o.s = [] := (ok_fit h ho).same (by omega)
      have hf := fs_has h ha ho hs
      obtain ⟨n, n1, n2, _, _, _, _, _, n3⟩ := hI.node _ _ hf
      rw [h1] at n1 n3
      exact ⟨n, by rw [dirI, if_neg hu]; exact n1, by omega, n3⟩
theorem link_at (h : okTo l l.length) (hI : Inv l k ns) (hx : l[k]? = some x) (hs : L x.s ≠ []) : ∃ n o, ns[nid l (L x.s) + 1]? = some n ∧ (fs (l.take k))[nid l (L x.s)]? = some o ∧ L o.p = L x.s ∧ n.k = 1 ∧ n.m = x.m ∧ n.d = o.d ∧ n.h = 0 ∧ 0 < n.n ∧ n.n ≤ k := by
  rcases (ok_fit h hx).link with h1 | ⟨a, o, ha, ho, h1, h2, h3, h4, h5⟩
  · exact absurd h1 hs
  · have hf := fs_has h ha ho h3
    obtain ⟨n, n1, n2, n3, n4, n5, n6, n7, _⟩ := hI.node _ _ hf
    rw [h1] at n1 hf
    exact ⟨n, o, n1, hf, h1, by omega, by omega, n4, n5, n6, n7⟩
theorem dirI_le (h : okTo l l.length) (hx : l[k]? = some x) : dirI l (upL (L x.p)) ≤ (fs (l.take k)).length := by
  by_cases hu : upL (L x.p) = []
  · rw [dirI, if_pos hu]; exact Nat.zero_le _
  · rcases (ok_fit h hx).up with h1 | ⟨a, o, ha, ho, h1, h2⟩
    · exact absurd h1 hu
    · have hs : L o.s = [] := (ok_fit h ho).same (by omega)
      have hf := fs_has h ha ho hs
      have := (List.getElem?_eq_some_iff.1 hf).1
      rw [h1] at this
      rw [dirI, if_neg hu]
      exact this
/-- The place of a directory's node tells its path. -/
theorem dirI_iff (h : okTo l l.length) (hx : l[k]? = some x) {a : Nat} {y : It} (hy : (fs (l.take k))[a]? = some y) : a + 1 = dirI l (upL (L x.p)) ↔ upL (L x.p) = L y.p := by
  have hn := nid_of h (fs_mono hy)
  have hyp : L y.p ≠ [] := by
    have hm : y ∈ l := List.mem_of_mem_take (List.mem_filter.1 (List.mem_of_getElem? hy)).1
    obtain ⟨b, hb⟩ := List.getElem?_of_mem hm
    exact (plain_first (ok_fit h hb).plain).1
  constructor
  · intro e
    by_cases hu : upL (L x.p) = []
    · rw [dirI, if_pos hu] at e; omega
    · rw [dirI, if_neg hu] at e
      rcases (ok_fit h hx).up with h1 | ⟨b, o, hb, ho, h1, h2⟩
      · exact absurd h1 hu
      · have hs : L o.s = [] := (ok_fit h ho).same (by omega)
        have hf := fs_has h hb ho hs
        rw [h1, show nid l (upL (L x.p)) = a by omega, hy] at hf
        cases hf
        exact h1.symm
  · intro e
    rw [dirI, if_neg (by rw [e]; exact hyp), e, hn]
theorem dirI_zero (h : okTo l l.length) : 0 = dirI l (upL (L x.p)) ↔ upL (L x.p) = [] := by
  constructor
  · intro e
    by_cases hu : upL (L x.p) = []
    · exact hu
    · rw [dirI, if_neg hu] at e; omega
  · intro e
    rw [dirI, if_pos e]

theorem kids_more (hx : l[k]? = some x) {t : List UInt8} {i m : Nat} {n : Nd} (hn : ns[m]? = some n) (he : n.e = kidsE l k t) (hi : m = i ↔ upL (L x.p) = t) {n0 : Nd} (h0 : ns[i]? = some n0) :
    ∃ n', (ns.set i { n0 with e := n0.e ++ [(nameS x.p, (nid l (fstL x) : Int) + 2)] })[m]? = some n' ∧ n'.k = n.k ∧ n'.m = n.m ∧ n'.d = n.d ∧ n'.h = n.h ∧ n'.n = n.n ∧ n'.e = kidsE l (k + 1) t := by
  rw [kidsE_succ hx]
  by_cases e : m = i
  · subst e
    rw [hn] at h0
    cases h0
    rw [if_pos (hi.1 rfl)]
    exact ⟨_, List.getElem?_set_self (List.getElem?_eq_some_iff.1 hn).1, rfl, rfl, rfl, rfl, rfl, by simp only [he]⟩
  · rw [if_neg (fun e2 => e (hi.2 e2))]
    exact ⟨n, by rw [List.getElem?_set_ne (fun e2 => e e2.symm)]; exact hn, rfl, rfl, rfl, rfl, rfl, he⟩

theorem inv_link (h : okTo l l.length) (hI : Inv l k ns) (hx : l[k]? = some x) (hs : L x.s ≠ []) {n0 n1 : Nd} (h0 : ns[dirI l (upL (L x.p))]? = some n0) (h1 : ns[nid l (L x.s) + 1]? = some n1) :
    Inv l (k + 1) ((ns.set (dirI l (upL (L x.p))) { n0 with e := n0.e ++ [(nameS x.p, ((nid l (L x.s) + 1 : Nat) : Int) + 1)] }).set (nid l (L x.s) + 1) (named n1 (dirI l (upL (L x.p))))) := by
  have hf : fstL x = L x.s := by rw [fstL, if_neg hs]
  have hfs := fs_succ hx
  rw [if_neg hs] at hfs
  obtain ⟨nl, o, l1, l2, l3, l4, l5, l6, l7, l8, l9⟩ := link_at h hI hx hs
  rw [h1] at l1
  cases l1
  obtain ⟨nd, d1, d2, d3⟩ := dir_at h hI hx
  rw [h0] at d1
  cases d1
  have hnum : ((nid l (L x.s) + 1 : Nat) : Int) + 1 = (nid l (fstL x) : Int) + 2 := by rw [hf]; omega
  rw [hnum]
  have hij : dirI l (upL (L x.p)) ≠ nid l (L x.s) + 1 := fun e => by
    rw [e, h1] at h0
    cases h0
    omega
  refine ⟨by rw [List.length_set, List.length_set, hfs]; exact hI.len, ?_, ?_⟩
  · obtain ⟨n, r1, r2, r3, r4⟩ := hI.root
    obtain ⟨n', q1, q2, q3, q4, q5, q6, q7⟩ := kids_more hx r1 r3 (dirI_zero h) h0
    exact ⟨n', by rw [List.getElem?_set_ne (by omega)]; exact q1, by omega, q7, by omega⟩
  · rw [hfs]
    intro a y hy
    obtain ⟨n, r1, r2, r3, r4, r5, r6, r7, r8⟩ := hI.node a y hy
    obtain ⟨n', q1, q2, q3, q4, q5, q6, q7⟩ := kids_more hx r1 r8 (dirI_iff h hx hy) h0
    by_cases e : nid l (L x.s) + 1 = a + 1
    · have e' : nid l (L x.s) = a := by omega
      rw [e'] at h1 l2 hij ⊢
      rw [r1] at h1
      cases h1
      rw [List.getElem?_set_ne hij] at q1
      rw [r1] at q1
      cases q1
      refine ⟨_, List.getElem?_set_self (by rw [List.length_set]; exact (List.getElem?_eq_some_iff.1 r1).1), ?_, ?_, ?_, ?_, ?_, ?_, ?_⟩
      · exact r2
      · exact r3
      · exact r4
      · exact r5
      · simp only [named]; omega
      · simp only [named]; omega
      · exact q7
    · exact ⟨n', by rw [List.getElem?_set_ne e]; exact q1, by omega, by omega, q4.trans r4, by omega, by omega, by omega, q7⟩

theorem inv_new (h : okTo l l.length) (hI : Inv l k ns) (hx : l[k]? = some x) (hs : L x.s = []) {n0 : Nd} (h0 : ns[dirI l (upL (L x.p))]? = some n0) :
    Inv l (k + 1) ((((ns ++ [made x.k x.m x.d]).set (dirI l (upL (L x.p))) { n0 with e := n0.e ++ [(nameS x.p, (ns.length : Int) + 1)] }).set ns.length (named (made x.k x.m x.d) (dirI l (upL (L x.p))))).set ns.length { named (made x.k x.m x.d) (dirI l (upL (L x.p))) with h := 0 }) := by
  have hf : fstL x = L x.p := by rw [fstL, if_pos hs]
  have hfs := fs_succ hx
  rw [if_pos hs] at hfs
  have hnn := nid_new h hx hs
  have hnum : (ns.length : Int) + 1 = (nid l (fstL x) : Int) + 2 := by rw [hf, hnn, hI.len]; omega
  rw [hnum, List.set_set]
  have hdl := dirI_le h hx
  have hlen := hI.len
  have hpx := (plain_first (ok_fit h hx).plain).1
  rw [List.set_append_left _ _ (by omega), List.set_append_right _ _ (by rw [List.length_set]; exact Nat.le_refl _), List.length_set, Nat.sub_self, List.set_cons_zero]
  refine ⟨by rw [List.length_append, List.length_set, hfs, List.length_append, hlen]; rfl, ?_, ?_⟩
  · obtain ⟨n, r1, r2, r3, r4⟩ := hI.root
    obtain ⟨n', q1, q2, q3, q4, q5, q6, q7⟩ := kids_more hx r1 r3 (dirI_zero h) h0
    exact ⟨n', by rw [List.getElem?_append_left (by rw [List.length_set]; omega)]; exact q1, by omega, q7, by omega⟩
  · rw [hfs]
    intro a y hy
    by_cases ha : a < (fs (l.take k)).length
    · rw [List.getElem?_append_left ha] at hy
      obtain ⟨n, r1, r2, r3, r4, r5, r6, r7, r8⟩ := hI.node a y hy
      obtain ⟨n', q1, q2, q3, q4, q5, q6, q7⟩ := kids_more hx r1 r8 (dirI_iff h hx hy) h0
      exact ⟨n', by rw [List.getElem?_append_left (by rw [List.length_set]; omega)]; exact q1, by omega, by omega, q4.trans r4, by omega, by omega, by omega, q7⟩
    · rw [List.getElem?_append_right (by omega)] at hy
      have ha0 : a - (fs (l.take k)).length = 0 := by
        have := (List.getElem?_eq_some_iff.1 hy).1
        simp at this
        omega
      rw [ha0] at hy
      simp only [List.getElem?_cons_zero, Option.some.injEq] at hy
      subst hy
      refine ⟨_, by rw [List.getElem?_append_right (by rw [List.length_set]; omega), List.length_set, show a + 1 - ns.length = 0 by omega]; rfl, rfl, rfl, rfl, rfl, ?_, ?_, ?_⟩
      · simp [named, made]
      · simp only [named, made]; omega
      · exact (kids_none h hx (Nat.le_refl _) hpx).symm
theorem inv_zero : Inv l 0 [root0] := ⟨rfl, ⟨root0, rfl, rfl, rfl, by decide⟩, fun a y hy => by simp [fs] at hy⟩
end
end Go.Proofs.YtmlgmedapbeleaaGreatDoor
/-
  What Make, Enter and Release do for one item of a tree that may be.
-/
namespace Go.Proofs.YtmlgmedapbeleaaGreatDoor
open Go.RowKit

section
variable {l : List It} {k : Nat} {ns : List Nd} {x : It} {B db mb : Nat} {used : Int}
theorem name_len {s : ByteArray} (h : plainB s = true) : (nameS s).size ≤ s.size := extract_len _ _ _

set_option maxRecDepth 10000 in
theorem step_new (h : okTo l l.length) (hw : wts l ≤ 20000) (h30 : l.length ≤ 30) (hI : Inv l k ns) (hx : l[k]? = some x) (hs : L x.s = []) (hU : 0 ≤ used ∧ used ≤ (wts (l.take k) : Int)) :
    ∃ (NS1 NS2 NS3 : List Nd) (U1 U2 : Int),
      (∀ W ps, Dk W B db mb ns ps used → B ≤ W.heap.size → Calls Tryz.prog 14 #[.pointer (some ⟨db, 0, none⟩), .int .i64 x.k, .int .i64 x.m, .string x.d] W fun e w' => e = .returned (.tuple #[.int .i64 ((ns.length : Int) + 1), .int .i64 0]) ∧ (∃ ps', Dk w' B db mb NS1 ps' U1) ∧ Stay mb W w' ∧ Below B W w') ∧
      (∀ W ps, Dk W B db mb NS1 ps U1 → B ≤ W.heap.size → Calls Tryz.prog 15 #[.pointer (some ⟨db, 0, none⟩), .int .i64 ((dirI l (upL (L x.p)) : Int) + 1), .string (nameS x.p), .int .i64 ((ns.length : Int) + 1)] W fun e w' => e = .returned (.int .i64 0) ∧ (∃ ps', Dk w' B db mb NS2 ps' U2) ∧ Stay mb W w' ∧ Below B W w') ∧
      (∀ W ps, Dk W B db mb NS2 ps U2 → Calls Tryz.prog 16 #[.pointer (some ⟨db, 0, none⟩), .int .i64 ((ns.length : Int) + 1)] W fun e w' => e = .returned (.int .i64 0) ∧ (∃ ps', Dk w' B db mb NS3 ps' U2) ∧ Stay mb W w' ∧ Below B W w') ∧
      Inv l (k + 1) NS3 ∧ 0 ≤ U2 ∧ U2 ≤ (wts (l.take (k + 1)) : Int) := by
  have F := ok_fit h hx
  obtain ⟨n0, d1, d2, d3⟩ := dir_at h hI hx
  have hk := (List.getElem?_eq_some_iff.1 hx).1
  have hil := (List.getElem?_eq_some_iff.1 d1).1
  have hl : ns.length ≤ 31 := by rw [hI.len]; have := fs_len (l := l) k; omega
  have hwt := wts_take hx
  have hwl : wts (l.take (k + 1)) ≤ wts l := sum_take_le wt l (k + 1)
  have hwx : wt x = x.p.size + x.d.size + x.s.size := rfl
  have hnl := name_len F.plain
  refine ⟨ns ++ [made x.k x.m x.d], ((ns ++ [made x.k x.m x.d]).set (dirI l (upL (L x.p))) { n0 with e := n0.e ++ [(nameS x.p, (ns.length : Int) + 1)] }).set ns.length (named (made x.k x.m x.d) (dirI l (upL (L x.p)))), (((ns ++ [made x.k x.m x.d]).set (dirI l (upL (L x.p))) { n0 with e := n0.e ++ [(nameS x.p, (ns.length : Int) + 1)] }).set ns.length (named (made x.k x.m x.d) (dirI l (upL (L x.p))))).set ns.length { named (made x.k x.m x.d) (dirI l (upL (L x.p))) with h := 0 }, used + x.d.size, used + x.d.size + (nameS x.p).size, ?_, ?_, ?_, inv_new h hI hx hs d1, by omega, by omega⟩
  · intro W ps hW hB
    refine (make_any hW x.k x.m x.d F.kind (fun e => nil_eq (F.dir e)) F.mode (by omega) hU.1 (by omega) (by omega) hB).mono ?_
    rintro e w' ⟨rfl, ⟨p, hp⟩, r⟩
    exact ⟨rfl, ⟨_, hp⟩, r⟩
  · intro W ps hW hB
    have d1' : (ns ++ [made x.k x.m x.d])[dirI l (upL (L x.p))]? = some n0 := by rw [List.getElem?_append_left hil]; exact d1
    have d2' : (ns ++ [made x.k x.m x.d])[ns.length]? = some (made x.k x.m x.d) := by simp
    obtain ⟨p, hp⟩ := hW.pl d1'
    obtain ⟨q, hq⟩ := hW.pl d2'
    refine (enter_any hW d1' hp d2' hq (by omega) (nameS x.p) d2 (fun _ => rfl) ⟨by simp [made], by simp [made]⟩ (by rw [d3]; exact kids_lt h hx) (by rw [d3]; have := kidsE_len l k (upL (L x.p)); omega) (plain_split F.plain).1 (by simp; omega) (by omega) (by omega) hB)
  · intro W ps hW
    have d3' : ∃ nn, (((ns ++ [made x.k x.m x.d]).set (dirI l (upL (L x.p))) { n0 with e := n0.e ++ [(nameS x.p, (ns.length : Int) + 1)] }).set ns.length (named (made x.k x.m x.d) (dirI l (upL (L x.p)))))[ns.length]? = some nn ∧ nn = named (made x.k x.m x.d) (dirI l (upL (L x.p))) :=
      ⟨_, List.getElem?_set_self (by simp), rfl⟩
    obtain ⟨nn, d3', e3⟩ := d3'
    obtain ⟨p, hp⟩ := hW.pl d3'
    refine (release_any hW d3' hp (by rw [e3]; simp [named, made]) (by rw [e3]; rfl) (by simp; omega)).mono ?_
    rintro e w' ⟨rfl, hd, r⟩
    rw [e3] at hd
    exact ⟨rfl, ⟨_, hd⟩, r⟩

set_option maxRecDepth 10000 in
theorem step_link (h : okTo l l.length) (hw : wts l ≤ 20000) (h30 : l.length ≤ 30) (hI : Inv l k ns) (hx : l[k]? = some x) (hs : L x.s ≠ []) (hU : 0 ≤ used ∧ used ≤ (wts (l.take k) : Int)) :
    ∃ (NS2 : List Nd) (U2 : Int),
      (∀ W ps, Dk W B db mb ns ps used → B ≤ W.heap.size → Calls Tryz.prog 15 #[.pointer (some ⟨db, 0, none⟩), .int .i64 ((dirI l (upL (L x.p)) : Int) + 1), .string (nameS x.p), .int .i64 (((nid l (L x.s) + 1 : Nat) : Int) + 1)] W fun e w' => e = .returned (.int .i64 0) ∧ (∃ ps', Dk w' B db mb NS2 ps' U2) ∧ Stay mb W w' ∧ Below B W w') ∧
      Inv l (k + 1) NS2 ∧ 0 ≤ U2 ∧ U2 ≤ (wts (l.take (k + 1)) : Int) := by
  have F := ok_fit h hx
  obtain ⟨n0, d1, d2, d3⟩ := dir_at h hI hx
  obtain ⟨nl, o, l1, l2, l3, l4, l5, l6, l7, l8, l9⟩ := link_at h hI hx hs
  have hk := (List.getElem?_eq_some_iff.1 hx).1
  have hl : ns.length ≤ 31 := by rw [hI.len]; have := fs_len (l := l) k; omega
  have hwt := wts_take hx
  have hwl : wts (l.take (k + 1)) ≤ wts l := sum_take_le wt l (k + 1)
  have hwx : wt x = x.p.size + x.d.size + x.s.size := rfl
  have hnl := name_len F.plain
  have hij : dirI l (upL (L x.p)) ≠ nid l (L x.s) + 1 := fun e => by
    rw [e, l1] at d1
    cases d1
    omega
  refine ⟨(ns.set (dirI l (upL (L x.p))) { n0 with e := n0.e ++ [(nameS x.p, ((nid l (L x.s) + 1 : Nat) : Int) + 1)] }).set (nid l (L x.s) + 1) (named nl (dirI l (upL (L x.p)))), used + (nameS x.p).size, ?_, inv_link h hI hx hs d1 l1, by omega, by omega⟩
  intro W ps hW hB
  obtain ⟨p, hp⟩ := hW.pl d1
  obtain ⟨q, hq⟩ := hW.pl l1
  exact enter_any hW d1 hp l1 hq hij (nameS x.p) d2 (fun e => by omega) ⟨by omega, by omega⟩ (by rw [d3]; exact kids_lt h hx) (by rw [d3]; have := kidsE_len l k (upL (L x.p)); omega) (plain_split F.plain).1 (by omega) (by omega) (by omega) hB

/-- Which number a path has behind k items. -/
def atM (l : List It) (k : Nat) (t : List UInt8) : Option Value :=
  if t = [] then some (.int .i64 1) else (findV (l.take k) t).map fun x => .int .i64 ((nid l (fstL x) : Int) + 2)
theorem atM_zero : (fun t => if t = L ⟨#[]⟩ then some (Value.int .i64 1) else (fun _ => none) t) = atM l 0 := by
  funext t
  rw [atM]
  by_cases e : t = []
  · rw [if_pos e, if_pos (by rw [e]; rfl)]
  · rw [if_neg e, if_neg (fun h => e (by rw [h]; rfl))]; rfl
theorem atM_succ (h : okTo l l.length) (hx : l[k]? = some x) {v : Int} (hv : v = (nid l (fstL x) : Int) + 2) : (fun t => if t = L x.p then some (Value.int .i64 v) else atM l k t) = atM l (k + 1) := by
  funext t
  have hk := (List.getElem?_eq_some_iff.1 hx).1
  have hp := (plain_first (ok_fit h hx).plain).1
  have hno := findV_none_of (n := k) (fun i hi => h i (by omega)) hx
  have h0 : atM l (k + 1) t = if t = [] then some (.int .i64 1) else (findV (l.take (k + 1)) t).map fun x => .int .i64 ((nid l (fstL x) : Int) + 2) := rfl
  rw [h0, take_snoc' hx, findV_snoc]
  by_cases e : t = L x.p
  · subst e
    rw [if_pos rfl, if_neg hp, hno, hv]
    simp
  · rw [if_neg e, atM]
    by_cases e2 : t = []
    · rw [if_pos e2, if_pos e2]
    · rw [if_neg e2, if_neg e2]
      cases findV (l.take k) t with
      | some y => rfl
      | none => simp only [if_neg (fun h => e (Eq.symm h))]
theorem findV_has (h : okTo l l.length) {a : Nat} {o : It} (ha : a < k) (ho : l[a]? = some o) : findV (l.take k) (L o.p) = some o := by
  have ho' : (l.take k)[a]? = some o := by rw [List.getElem?_take_of_lt ha]; exact ho
  have hf : findI (l.take k) (L o.p) = some a := findI_at ho' rfl (fun j hj y hy => by
    have hj2 := (List.getElem?_eq_some_iff.1 hy).1
    rw [List.length_take] at hj2
    rw [List.getElem?_take_of_lt (by omega)] at hy
    exact ok_ne h (i := j) (j := a) (by omega) (by omega) (List.getElem?_eq_some_iff.1 ho).1 hy ho)
  rw [findV_eq, hf]
  exact ho'
theorem atM_dir (h : okTo l l.length) (hx : l[k]? = some x) : (atM l k (upL (L x.p))).getD (.int .i64 0) = .int .i64 ((dirI l (upL (L x.p)) : Int) + 1) := by
  rw [atM]
  by_cases hu : upL (L x.p) = []
  · rw [if_pos hu, dirI, if_pos hu]; rfl
  · rw [if_neg hu, dirI, if_neg hu]
    rcases (ok_fit h hx).up with h1 | ⟨a, o, ha, ho, h1, h2⟩
    · exact absurd h1 hu
    · have hs : L o.s = [] := (ok_fit h ho).same (by omega)
      rw [← h1, findV_has h ha ho]
      simp only [Option.map_some, Option.getD_some, fstL, if_pos hs]
      congr 1
theorem atM_link (h : okTo l l.length) (hx : l[k]? = some x) (hs : L x.s ≠ []) : (atM l k (L x.s)).getD (.int .i64 0) = .int .i64 (((nid l (L x.s) + 1 : Nat) : Int) + 1) := by
  rw [atM, if_neg hs]
  rcases (ok_fit h hx).link with h1 | ⟨a, o, ha, ho, h1, h2, h3, _⟩
  · exact absurd h1 hs
  · rw [← h1, findV_has h ha ho]
    simp only [Option.map_some, Option.getD_some, fstL, if_pos h3]
    congr 1
end
end Go.Proofs.YtmlgmedapbeleaaGreatDoor
namespace Go.Proofs.YtmlgmedapbeleaaGreatDoor
open Go.RowKit

/-- What a file has; which node it is; an item as it is scanned. -/
def dat (l : List It) (x : It) : ByteArray := match findV l (fstL x) with | some o => o.d | none => x.d
def noB (l : List It) (x : It) : Nat := nid l (fstL x) + 2
def itoaS (n : Nat) : ByteArray := ⟨(Lib.decDigits n).toArray⟩
def sc (l : List It) (x : It) : It := ⟨x.p, x.k, x.m, if x.k = 2 then ⟨#[]⟩ else dat l x, if x.k = 1 then itoaS (noB l x) else ⟨#[]⟩⟩
def kidsL (l : List It) (t : List UInt8) : List It := l.filter (fun x => decide (upL (L x.p) = t))
theorem kids_map (l : List It) (t : List UInt8) : kidsE l l.length t = (kidsL l t).map fun x => (nameS x.p, (nid l (fstL x) : Int) + 2) := by
  rw [kidsE, List.take_length]; rfl
/-- The items in the order in which they are found. -/
def ord (l : List It) : Nat → List UInt8 → List It
  | 0, _ => []
  | d + 1, t => (kidsL l t).flatMap fun x => x :: (if x.k = 2 then ord l d (L x.p) else [])

section
variable {l : List It} {k : Nat} {ns : List Nd} {x : It}
theorem node_of (h : okTo l l.length) (hI : Inv l l.length ns) (hx : l[k]? = some x) : ∃ n, ns[nid l (fstL x) + 1]? = some n ∧ n.k = x.k ∧ n.m = x.m ∧ n.d = dat l x ∧ n.e = kidsE l l.length (fstL x) := by
  have hk := (List.getElem?_eq_some_iff.1 hx).1
  by_cases hs : L x.s = []
  · have hf : fstL x = L x.p := by rw [fstL, if_pos hs]
    have hfs := fs_has h hk hx hs
    obtain ⟨n, n1, n2, n3, n4, _, _, _, n5⟩ := hI.node _ _ hfs
    have hv := findV_has h hk hx
    rw [List.take_length] at hv
    rw [hf]
    exact ⟨n, n1, n2, n3, by rw [dat, hf, hv]; exact n4, n5⟩
  · have hf : fstL x = L x.s := by rw [fstL, if_neg hs]
    have hk1 : x.k = 1 := Classical.byContradiction fun e => hs ((ok_fit h hx).same e)
    rcases (ok_fit h hx).link with h1 | ⟨a, o, ha, ho, h1, h2, h3, h4, h5⟩
    · exact absurd h1 hs
    · have hfs := fs_has h (Nat.lt_trans ha hk) ho h3
      obtain ⟨n, n1, n2, n3, n4, _, _, _, n5⟩ := hI.node _ _ hfs
      have hv := findV_has h (Nat.lt_trans ha hk) ho
      rw [List.take_length] at hv
      rw [h1] at n1 n5 hv
      rw [hf]
      exact ⟨n, n1, by omega, by omega, by rw [dat, hf, hv]; exact n4, n5⟩
theorem dir_num (h : okTo l l.length) (hx : l[k]? = some x) (h2 : x.k = 2) : dirI l (L x.p) = nid l (fstL x) + 1 ∧ fstL x = L x.p := by
  have hp := (plain_first (ok_fit h hx).plain).1
  have hs : L x.s = [] := (ok_fit h hx).same (by omega)
  have hf : fstL x = L x.p := by rw [fstL, if_pos hs]
  exact ⟨by rw [dirI, if_neg hp, hf], hf⟩
theorem join_path (h : okTo l l.length) (hx : l[k]? = some x) : S (joinL (upL (L x.p)) (L (nameS x.p))) = x.p := by
  obtain ⟨_, h1⟩ := plain_split (ok_fit h hx).plain
  rcases h1 with ⟨_, a1, a2⟩ | ⟨v, _, _, _, _, a1, a2⟩
  · rw [joinL, if_pos a1, a2, S_L]
  · rcases (ok_fit h hx).up with e | ⟨a, o, ha, ho, e, _⟩
    · exact absurd e a1
    · have hl := (plainB_facts (ok_fit h ho).plain).2
      rw [← L_size, e] at hl
      rw [joinL, if_neg a1, if_neg hl, List.append_assoc]
      show S (upL (L x.p) ++ 47 :: L (nameS x.p)) = x.p
      rw [← a2, S_L]
theorem path_len (h : okTo l l.length) (hx : l[k]? = some x) : x.p.size ≤ 4095 := by
  have h1 := (plainB_names.1 (ok_fit h hx).plain).2
  rw [rightB, Bool.and_eq_true, Bool.and_eq_true, decide_eq_true_eq, L_size] at h1
  exact h1.1.2

/-! ### each item once -/
def upN : Nat → List UInt8 → List UInt8
  | 0, p => p
  | m + 1, p => upL (upN m p)
theorem upL_lt {p : List UInt8} (h : p ≠ []) : (upL p).length < p.length := by
  have h1 := lastTo_lt p p.length
  have h2 : 0 < p.length := List.length_pos_iff.2 h
  have h3 : lastL p < p.length := h1.2
  rw [upL]
  split
  · exact h2
  · rw [List.length_take]; omega
theorem upL_le (p : List UInt8) : (upL p).length ≤ p.length := by
  by_cases h : p = []
  · subst h; exact Nat.le_refl _
  · exact Nat.le_of_lt (upL_lt h)
theorem upN_le : ∀ (m : Nat) (p : List UInt8), (upN m p).length ≤ p.length
  | 0, _ => Nat.le_refl _
  | m + 1, p => Nat.le_trans (upL_le _) (upN_le m p)
theorem upN_add : ∀ (a b : Nat) (p : List UInt8), upN (a + b) p = upN a (upN b p)
  | 0, b, p => by rw [Nat.zero_add]; rfl
  | a + 1, b, p => by rw [Nat.succ_add]; exact congrArg upL (upN_add a b p)
theorem upN_lt {m : Nat} {p : List UInt8} (h : p ≠ []) : (upN (m + 1) p).length < p.length := by
  rw [show m + 1 = m + 1 from rfl, upN_add m 1 p]
  exact Nat.lt_of_le_of_lt (upN_le _ _) (upL_lt h)
theorem ord_anc : ∀ (d : Nat) (t : List UInt8), ∀ x ∈ ord l d t, x ∈ l ∧ ∃ m, upN (m + 1) (L x.p) = t
  | 0, _, _, hx => by cases hx
  | d + 1, t, x, hx => by
    rw [ord, List.mem_flatMap] at hx
    obtain ⟨z, hz, hx⟩ := hx
    rw [kidsL, List.mem_filter, decide_eq_true_eq] at hz
    rcases List.mem_cons.1 hx with rfl | hx
    · exact ⟨hz.1, 0, hz.2⟩
    · split at hx
      · obtain ⟨h1, m, h2⟩ := ord_anc d (L z.p) x hx
        exact ⟨h1, m + 1, by rw [show m + 1 + 1 = 1 + (m + 1) by omega, upN_add, h2]; exact hz.2⟩
      · cases hx
theorem ord_nodup (h : okTo l l.length) : ∀ (d : Nat) (t : List UInt8), (ord l d t).Pairwise (fun x y => L x.p ≠ L y.p)
  | 0, _ => List.Pairwise.nil
  | d + 1, t => by
    rw [ord, List.pairwise_flatMap]
    have hne : ∀ z ∈ kidsL l t, L z.p ≠ [] ∧ upL (L z.p) = t := fun z hz => by
      rw [kidsL, List.mem_filter, decide_eq_true_eq] at hz
      obtain ⟨k, hk⟩ := List.getElem?_of_mem hz.1
      exact ⟨(plain_first (ok_fit h hk).plain).1, hz.2⟩
    have hblk : ∀ z ∈ kidsL l t, ∀ x ∈ z :: (if z.k = 2 then ord l d (L z.p) else []), ∃ m, upN m (L x.p) = L z.p := fun z _ x hx => by
      rcases List.mem_cons.1 hx with rfl | hx
      · exact ⟨0, rfl⟩
      · split at hx
        · obtain ⟨_, m, hm⟩ := ord_anc d _ x hx
          exact ⟨m + 1, hm⟩
        · cases hx
    refine ⟨fun z hz => ?_, ?_⟩
    · rw [List.pairwise_cons]
      split
      · refine ⟨fun x hx e => ?_, ord_nodup h d _⟩
        obtain ⟨_, m, hm⟩ := ord_anc d _ x hx
        rw [← e] at hm
        have := upN_lt (m := m) (hne z hz).1
        rw [hm] at this
        omega
      · exact ⟨fun x hx => (by cases hx), List.Pairwise.nil⟩
    · have hp : (kidsL l t).Pairwise (fun x y => L x.p < L y.p) := (ok_pair h).filter _
      refine (List.pairwise_iff_getElem.2 fun i j hi hj hij => ?_)
      have hlt := List.pairwise_iff_getElem.1 hp i j hi hj hij
      have hz1 := List.getElem_mem hi
      have hz2 := List.getElem_mem hj
      intro x hx y hy e
      obtain ⟨m1, e1⟩ := hblk _ hz1 x hx
      obtain ⟨m2, e2⟩ := hblk _ hz2 y hy
      rw [← e] at e2
      obtain ⟨n1, u1⟩ := hne _ hz1
      obtain ⟨n2, u2⟩ := hne _ hz2
      have key : ∀ (a b : Nat) (p q : List UInt8), a ≤ b → upN a (L x.p) = p → upN b (L x.p) = q → upL p = t → upL q = t → q ≠ [] → p = q := fun a b p q hab ha hb hp hq hqn => by
        obtain ⟨c, rfl⟩ : ∃ c, b = c + a := ⟨b - a, by omega⟩
        rw [upN_add, ha] at hb
        cases c with
        | zero => exact hb
        | succ c =>
          rw [upN_add c 1] at hb
          have h1 : upN 1 p = t := hp
          rw [h1] at hb
          have h2 := upN_le c t
          rw [hb] at h2
          have h3 := upL_lt hqn
          rw [hq] at h3
          omega
      have : L (kidsL l t)[i].p = L (kidsL l t)[j].p := by
        rcases Nat.le_total m1 m2 with hm | hm
        · exact key m1 m2 _ _ hm e1 e2 u1 u2 n2
        · exact (key m2 m1 _ _ hm e2 e1 u2 u1 n1).symm
      rw [this] at hlt
      exact lt_irrefl' _ hlt
theorem ord_kid {t : List UInt8} {d : Nat} (hx : x ∈ kidsL l t) : x ∈ ord l (d + 1) t := by
  rw [ord, List.mem_flatMap]
  exact ⟨x, hx, List.mem_cons_self ..⟩
theorem ord_deep (h : okTo l l.length) {y : It} (hy2 : y.k = 2) (hx : x ∈ kidsL l (L y.p)) : ∀ (d : Nat) (t : List UInt8), 5000 ≤ d + t.length → y ∈ ord l d t → x ∈ ord l d t
  | 0, _, _, hy => by cases hy
  | d + 1, t, hd, hy => by
    rw [ord, List.mem_flatMap] at hy ⊢
    obtain ⟨z, hz, hy⟩ := hy
    refine ⟨z, hz, List.mem_cons.2 (.inr ?_)⟩
    rw [kidsL, List.mem_filter, decide_eq_true_eq] at hz
    obtain ⟨k, hk⟩ := List.getElem?_of_mem hz.1
    have hp := (plain_first (ok_fit h hk).plain).1
    have hlt := upL_lt hp
    rw [hz.2] at hlt
    have hl := path_len h hk
    rcases List.mem_cons.1 hy with rfl | hy
    · rw [if_pos hy2]
      obtain ⟨e, rfl⟩ : ∃ e, d = e + 1 := ⟨d - 1, by rw [L_size] at hlt; omega⟩
      exact ord_kid hx
    · split at hy
      · rename_i h2
        rw [if_pos h2]
        exact ord_deep h hy2 hx d _ (by omega) hy
      · cases hy
theorem ord_all (h : okTo l l.length) : ∀ (k : Nat) (x : It), l[k]? = some x → x ∈ ord l 5000 [] := by
  intro k
  induction k using Nat.strongRecOn with
  | _ k ih =>
    intro x hx
    have hm := List.mem_of_getElem? hx
    by_cases hu : upL (L x.p) = []
    · exact ord_kid (by rw [kidsL, List.mem_filter, decide_eq_true_eq]; exact ⟨hm, hu⟩)
    · rcases (ok_fit h hx).up with e | ⟨a, o, ha, ho, e, e2⟩
      · exact absurd e hu
      · exact ord_deep h e2 (by rw [kidsL, List.mem_filter, decide_eq_true_eq]; exact ⟨hm, e.symm⟩) 5000 [] (by simp) (ih a ha o ho)
theorem ord_perm (h : okTo l l.length) : (ord l 5000 []).Perm l := by
  have n1 : (ord l 5000 []).Nodup := (ord_nodup h 5000 []).imp (fun {a b} (hne : L a.p ≠ L b.p) (e : a = b) => hne (by rw [e]))
  have n2 : l.Nodup := (ok_pair h).imp (fun {a b} (hlt : L a.p < L b.p) (e : a = b) => lt_irrefl' (L b.p) (by rw [e] at hlt; exact hlt))
  rw [List.perm_ext_iff_of_nodup n1 n2]
  intro x
  constructor
  · exact fun hx => (ord_anc _ _ x hx).1
  · intro hx
    obtain ⟨k, hk⟩ := List.getElem?_of_mem hx
    exact ord_all h k x hk
end
end Go.Proofs.YtmlgmedapbeleaaGreatDoor
