/-
  A set behind its bracket: the walk.
-/
import Derived.Test.YtiacoomeakodnaaG3
namespace Go.Proofs.Ytiacoomeakodnaa
open Go.RowKit

theorem classL_pos {n : List UInt8} {sp : List Span} (h : classL n = some sp) : 0 < sp.length ∧ sp.length ≤ 4 := by
  unfold classL at h
  by_cases h0 : n = nmAlpha
  · rw [if_pos h0] at h; cases h; decide
  rw [if_neg h0] at h
  by_cases h1 : n = nmDigit
  · rw [if_pos h1] at h; cases h; decide
  rw [if_neg h1] at h
  by_cases h2 : n = nmAlnum
  · rw [if_pos h2] at h; cases h; decide
  rw [if_neg h2] at h
  by_cases h3 : n = nmUpper
  · rw [if_pos h3] at h; cases h; decide
  rw [if_neg h3] at h
  by_cases h4 : n = nmLower
  · rw [if_pos h4] at h; cases h; decide
  rw [if_neg h4] at h
  by_cases h5 : n = nmSpace
  · rw [if_pos h5] at h; cases h; decide
  rw [if_neg h5] at h
  by_cases h6 : n = nmBlank
  · rw [if_pos h6] at h; cases h; decide
  rw [if_neg h6] at h
  by_cases h7 : n = nmPunct
  · rw [if_pos h7] at h; cases h; decide
  rw [if_neg h7] at h
  by_cases h8 : n = nmXdigit
  · rw [if_pos h8] at h; cases h; decide
  rw [if_neg h8] at h
  by_cases h9 : n = nmCntrl
  · rw [if_pos h9] at h; cases h; decide
  rw [if_neg h9] at h
  by_cases h10 : n = nmPrint
  · rw [if_pos h10] at h; cases h; decide
  rw [if_neg h10] at h
  by_cases h11 : n = nmGraph
  · rw [if_pos h11] at h; cases h; decide
  rw [if_neg h11] at h
  cases h
theorem namedS_pos {l : List Sg} {sp : List Span} {k : Nat} (h : namedS l = some (sp, k)) : 0 < sp.length ∧ sp.length ≤ 4 := by
  match l, h with
  | a :: b :: l, h =>
    rw [namedS] at h
    split at h
    · split at h
      · rename_i n k' h2
        obtain ⟨x, hx1, hx⟩ := Option.map_eq_some_iff.1 h
        cases hx
        exact classL_pos hx1
      · cases h
    · cases h

def partC (kind b : Int) (neg : Bool) (sv : Value) : Array Value := #[.int .u8 kind, .int .u8 b, .bool neg, sv]
structure PInv (w0 wr : World) (neg : Bool) (sv : Value) (sp : List Span) : Prop where
  res : Blk wr w0.heap.size 49 (partC 0 0 false (.slice none 0 0))
  blk : Blk wr (w0.heap.size + 1) 49 (partC 91 0 neg sv)
  own : wr.ownsRow (w0.heap.size + 2) 62 2 sv sp.length (sp.flatMap spanC)
  bel : Below w0.heap.size w0 wr

theorem PInv.size {w0 wr : World} {neg : Bool} {sv : Value} {sp : List Span} (h : PInv w0 wr neg sv sp) : w0.heap.size + 1 < wr.heap.size := h.blk.lt
theorem PInv.next {w0 wr w' : World} {neg : Bool} {sv : Value} {sp : List Span} (h : PInv w0 wr neg sv sp) (hb : Below wr.heap.size wr w') : PInv w0 w' neg sv sp := by
  have := h.size
  exact ⟨h.res.below hb (by omega), h.blk.below hb (by omega), own_below h.own hb, h.bel.trans (hb.mono (by omega))⟩
theorem PInv.push {w0 wr w1 : World} {neg : Bool} {sv : Value} {sp : List Span} (h : PInv w0 wr neg sv sp) {g n cap : Nat} (sp' : List Span) (hn : n = sp.length + sp'.length) (hown : w1.ownsRow (w0.heap.size + 2) 62 2 (.slice (some ⟨g, 0, none⟩) n cap) n (sp.flatMap spanC ++ sp'.flatMap spanC))
    (hg : wr.grownBy w1 sv.ownBlock) : PInv w0 (w1.setCell ⟨w0.heap.size + 1, 3, none⟩ (.slice (some ⟨g, 0, none⟩) n cap)) neg (.slice (some ⟨g, 0, none⟩) n cap) (sp ++ sp') := by
  have hz := h.size
  refine ⟨(h.res.grown hg (own_ne h.own (by omega))).far (by simp) _, (h.blk.grown hg (own_ne h.own (by omega))).put 3 _, own_far ?_ (by simp) _, (h.bel.grown hg (by omega) fun k hk => by have := (World.ownsRow.lt h.own k hk).1; omega).setCell (by simp) _⟩
  rw [List.length_append, ← hn, List.flatMap_append]
  exact hown
theorem PInv.start (w : World) (neg : Bool) : PInv w ((w.alloc (.cells (partC 0 0 false (.slice none 0 0)) 49)).alloc (.cells (partC 91 0 neg (.slice none 0 0)) 49)) neg (.slice none 0 0) [] := by
  have h1 := Blk.new (w.alloc (.cells (partC 0 0 false (.slice none 0 0)) 49)) 49 (partC 91 0 neg (.slice none 0 0))
  rw [show (w.alloc (.cells (partC 0 0 false (.slice none 0 0)) 49)).heap.size = w.heap.size + 1 by simp] at h1
  exact ⟨(Blk.new w _ _).alloc _, h1, World.ownsRow_nil _ _ _ _, Below.alloc (Below.alloc (Below.refl _ _) (Nat.le_refl _) _) (by simp) _⟩
theorem PInv.neg_ {w0 wr : World} {neg : Bool} {sv : Value} {sp : List Span} (h : PInv w0 wr neg sv sp) (b : Bool) : PInv w0 (wr.setCell ⟨w0.heap.size + 1, 2, none⟩ (.bool b)) b sv sp :=
  ⟨h.res.far (by simp) _, h.blk.put 2 _, own_far h.own (by simp) _, h.bel.setCell (by simp) _⟩

/-- What set returns: the part in its block, and two slots. -/
theorem set_results {w : World} {b : Nat} {tmps : Array Value} {x y : Int} {neg : Bool} {sv : Value} (h2 : tmps[2]?.getD undef = .pointer (some ⟨b, 0, none⟩)) (h : Blk w b 49 (partC x y neg sv)) :
    (results Try.f23 tmps).run Try.prog w = .ok (.tuple #[.agg (partC x y neg sv), tmps.getD 3 undef, tmps.getD 4 undef]) w := by
  have q0 := h.cell 0
  have q1 := h.cell 1
  have q2 := h.cell 2
  have q3 := h.cell 3
  simp [partC] at q0 q1 q2 q3
  simp [results, Try.results23, go_sem, h2, q0, q1, q2, q3, partC]
theorem spans_one (sp : List Span) : ∀ u ∈ sp.flatMap spanC, u.oneCell' = true := by
  intro u hu
  obtain ⟨s, _, hs⟩ := List.mem_flatMap.1 hu
  simp [spanC] at hs
  rcases hs with rfl | rfl <;> rfl
theorem PInv.facts {w0 wr : World} {neg : Bool} {sv : Value} {sp : List Span} (h : PInv w0 wr neg sv sp) : wr.cell? ⟨w0.heap.size + 1, 3, none⟩ = some sv ∧ wr.frozen? ⟨w0.heap.size + 1, 3, none⟩ = false := ⟨by rw [h.blk.cell 3]; rfl, h.blk.free 3⟩
theorem PInv.facts_grown {w0 wr w1 : World} {neg : Bool} {sv : Value} {sp : List Span} (h : PInv w0 wr neg sv sp) (hg : wr.grownBy w1 sv.ownBlock) : w1.cell? ⟨w0.heap.size + 1, 3, none⟩ = some sv ∧ w1.frozen? ⟨w0.heap.size + 1, 3, none⟩ = false := by
  have hb := h.blk.grown hg (own_ne h.own (by omega))
  exact ⟨by rw [hb.cell 3]; rfl, hb.free 3⟩
/-- The signs from k on. -/
theorem sgs_cut {w : World} {B : Nat} {v : Value} {l : List Sg} (h : Sl w B 2 v l.length (l.flatMap sgC)) {k : Nat} (hk : k ≤ l.length) :
    ∃ v', (∀ (w' : World), (Instr.slice 51 v (some (.int .i64 (k : Int))) none none).run Try.prog w' = .ok v' w') ∧ Sl w B 2 v' (l.drop k).length ((l.drop k).flatMap sgC) := by
  obtain ⟨v', h1, h2⟩ := h.cut (P := Try.prog) 51 54 Try.underlying51 (by kernel_rfl) hk
  rw [flat_drop sgC 2 sgC_len, ← List.length_drop] at h2
  exact ⟨v', h1, h2⟩
end Go.Proofs.Ytiacoomeakodnaa
