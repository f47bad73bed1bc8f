/-
  A pattern in memory; Compile: the walk.
-/
import Derived.Test.YtiacoomeakodnaaG6
namespace Go.Proofs.Ytiacoomeakodnaa
open Go.RowKit

/-- The cells of a part whose set lies at a slice. -/
abbrev Pv := Pt × Value
def ptC (x : Pv) : List Value := [.int .u8 ((x.1.kind.toNat : Nat) : Int), .int .u8 ((x.1.b.toNat : Nat) : Int), .bool x.1.neg, x.2]
theorem ptC_len (x : Pv) : (ptC x).length = 4 := rfl
/-- A slice of parts, below block B. -/
def PatAt (w : World) (B : Nat) (v : Value) (l : List Pt) : Prop := ∃ ps : List Pv, ps.map (·.1) = l ∧ Sl w B 4 v l.length (ps.flatMap ptC) ∧ ∀ x ∈ ps, Sl w B 2 x.2 x.1.set.length (x.1.set.flatMap spanC)
theorem PatAt.below {w w' : World} {B : Nat} {v : Value} {l : List Pt} (h : PatAt w B v l) (hb : Below B w w') : PatAt w' B v l := by
  obtain ⟨ps, h1, h2, h3⟩ := h
  exact ⟨ps, h1, h2.below hb, fun x hx => (h3 x hx).below hb⟩
theorem PatAt.mono {w : World} {B B' : Nat} {v : Value} {l : List Pt} (h : PatAt w B v l) (hB : B ≤ B') : PatAt w B' v l := by
  obtain ⟨ps, h1, h2, h3⟩ := h
  exact ⟨ps, h1, h2.mono hB, fun x hx => (h3 x hx).mono hB⟩

/-- A pattern that the call has made, in blocks from base on. -/
def PatOwn (w : World) (base : Nat) (v : Value) (l : List Pt) : Prop := ∃ ps : List Pv, ps.map (·.1) = l ∧ w.ownsRow base 49 4 v l.length (ps.flatMap ptC) ∧ ∀ x ∈ ps, w.ownsRow base 62 2 x.2 x.1.set.length (x.1.set.flatMap spanC)
theorem PatOwn.at_ {w : World} {base : Nat} {v : Value} {l : List Pt} (h : PatOwn w base v l) : PatAt w w.heap.size v l := by
  obtain ⟨ps, h1, h2, h3⟩ := h
  exact ⟨ps, h1, Sl.of_own h2, fun x hx => Sl.of_own (h3 x hx)⟩
theorem PatOwn.far {w : World} {base : Nat} {v : Value} {l : List Pt} (h : PatOwn w base v l) {p : Addr} (hp : p.block < base) (u : Value) : PatOwn (w.setCell p u) base v l := by
  obtain ⟨ps, h1, h2, h3⟩ := h
  exact ⟨ps, h1, own_far h2 hp u, fun x hx => own_far (h3 x hx) hp u⟩
theorem PatOwn.from {w : World} {base base' : Nat} {v : Value} {l : List Pt} (h : PatOwn w base v l) (hB : base' ≤ base) : PatOwn w base' v l := by
  obtain ⟨ps, h1, h2, h3⟩ := h
  exact ⟨ps, h1, own_from h2 hB, fun x hx => own_from (h3 x hx) hB⟩

/-- While a pattern is compiled. -/
structure CInv (w wr : World) (v4 pv : Value) (sl : List Sg) (ps : List Pv) : Prop where
  res : Blk wr w.heap.size 26 #[.slice none 0 0]
  out : Blk wr (w.heap.size + 1) 26 #[pv]
  own : wr.ownsRow (w.heap.size + 2) 49 4 pv ps.length (ps.flatMap ptC)
  sets : ∀ x ∈ ps, wr.ownsRow (w.heap.size + 2) 62 2 x.2 x.1.set.length (x.1.set.flatMap spanC) ∧ (x.2.ownBlock = none ∨ x.2.ownBlock ≠ pv.ownBlock)
  sgs : wr.ownsRow (w.heap.size + 2) 54 2 v4 sl.length (sl.flatMap sgC)
  sgn : v4.ownBlock = none ∨ v4.ownBlock ≠ pv.ownBlock
  bel : Below w.heap.size w wr

section
variable {w wr : World} {v4 pv : Value} {sl : List Sg} {ps : List Pv}
theorem CInv.size (h : CInv w wr v4 pv sl ps) : w.heap.size + 1 < wr.heap.size := h.out.lt
theorem CInv.next (h : CInv w wr v4 pv sl ps) {w' : World} (hb : Below wr.heap.size wr w') : CInv w w' v4 pv sl ps := by
  have := h.size
  exact ⟨h.res.below hb (by omega), h.out.below hb (by omega), own_below h.own hb, fun x hx => ⟨own_below (h.sets x hx).1 hb, (h.sets x hx).2⟩, own_below h.sgs hb, h.sgn, h.bel.trans (hb.mono (by omega))⟩
theorem CInv.push (h : CInv w wr v4 pv sl ps) {w5 w1 : World} (hb : Below wr.heap.size wr w5) (x : Pv) (hx : w5.ownsRow wr.heap.size 62 2 x.2 x.1.set.length (x.1.set.flatMap spanC)) {g n cap : Nat} (hn : n = ps.length)
    (hown : w1.ownsRow (w.heap.size + 2) 49 4 (.slice (some ⟨g, 0, none⟩) (n + 1) cap) (n + 1) (ps.flatMap ptC ++ ptC x)) (hg : w5.grownBy w1 pv.ownBlock) (hl : pv.ownBlock = some g ∨ g = w5.heap.size) :
    CInv w (w1.setCell ⟨w.heap.size + 1, 0, none⟩ (.slice (some ⟨g, 0, none⟩) (n + 1) cap)) v4 (.slice (some ⟨g, 0, none⟩) (n + 1) cap) sl (ps ++ [x]) := by
  have hz := h.size
  have h5 := h.next hb
  have hz5 := hb.size
  have old : ∀ v : Value, (v.ownBlock = none ∨ v.ownBlock ≠ pv.ownBlock) → (∀ k, v.ownBlock = some k → k < w5.heap.size) → v.ownBlock = none ∨ v.ownBlock ≠ (Value.slice (some ⟨g, 0, none⟩) (n + 1) cap).ownBlock := fun v h1 h2 => by
    rcases h1 with h1 | h1
    · exact .inl h1
    · right
      show v.ownBlock ≠ some g
      rcases hl with hl | hl
      · rw [← hl]; exact h1
      · intro e; have := h2 g e; omega
  refine ⟨(h5.res.grown hg (own_ne h5.own (by omega))).far (by simp) _, (h5.out.grown hg (own_ne h5.own (by omega))).put 0 _, own_far ?_ (by simp) _, ?_, own_far (h5.sgs.kept hg h5.sgn) (by simp) _, old _ h5.sgn fun k hk => (h5.sgs.lt k hk).2, (h5.bel.grown hg (by omega) fun k hk => by have := (World.ownsRow.lt h5.own k hk).1; omega).setCell (by simp) _⟩
  · rw [List.length_append, ← hn, List.flatMap_append, List.flatMap_cons, List.flatMap_nil, List.append_nil]
    exact hown
  · intro y hy
    rcases List.mem_append.1 hy with hy | hy
    · obtain ⟨s1, s2⟩ := h5.sets y hy
      exact ⟨own_far (s1.kept hg s2) (by simp) _, old _ s2 fun k hk => (s1.lt k hk).2⟩
    · obtain rfl : y = x := by simpa using hy
      have hne : y.2.ownBlock = none ∨ y.2.ownBlock ≠ pv.ownBlock := by
        cases e : y.2.ownBlock with
        | none => exact .inl rfl
        | some k =>
          right
          intro e2
          have h1 := (hx.lt k e).1
          have h2 := (h.own.lt k e2.symm).2
          omega
      exact ⟨own_from (own_far (hx.kept hg hne) (by simp; omega) _) (by omega), old _ hne fun k hk => (hx.lt k hk).2⟩
theorem CInv.pat (h : CInv w wr v4 pv sl ps) (v : Value) : PatOwn (wr.setCell ⟨w.heap.size, 0, none⟩ v) w.heap.size pv (ps.map (·.1)) := by
  refine ⟨ps, rfl, ?_, fun x hx => ?_⟩
  · rw [List.length_map]
    exact own_from (own_far (p := ⟨w.heap.size, 0, none⟩) h.own (by show w.heap.size < _; omega) v) (by omega)
  · exact own_from (own_far (p := ⟨w.heap.size, 0, none⟩) (h.sets x hx).1 (by show w.heap.size < _; omega) v) (by omega)
end
theorem CInv.start (w w' : World) {v4 : Value} {sl : List Sg} {n : Nat} (hn : n = sl.length) (hb : Below (w.heap.size + 2) ((w.alloc (.cells #[.slice none 0 0] 26)).alloc (.cells #[.slice none 0 0] 26)) w') (ho : w'.ownsRow (w.heap.size + 2) 54 2 v4 n (sl.flatMap sgC)) :
    CInv w w' v4 (.slice none 0 0) sl [] := by
  subst hn
  have h1 := Blk.new (w.alloc (.cells #[.slice none 0 0] 26)) 26 #[.slice none 0 0]
  rw [show (w.alloc (.cells #[.slice none 0 0] 26)).heap.size = w.heap.size + 1 by simp] at h1
  have h0 := (Blk.new w 26 #[.slice none 0 0]).alloc (.cells #[.slice none 0 0] 26)
  refine ⟨h0.below hb (by omega), h1.below hb (by omega), World.ownsRow_nil _ _ _ _, by simp, ho, ?_, (Below.alloc (Below.alloc (Below.refl _ _) (Nat.le_refl _) _) (by simp) _).trans (hb.mono (by omega))⟩
  cases h : v4.ownBlock with
  | none => exact .inl rfl
  | some k => right; simp [Value.ownBlock]

theorem infoPart : (Try.prog.info? 49).map (fun i => (i.zero, i.size, i.bytes)) = some (some (.agg #[.int .u8 0, .int .u8 0, .bool false, .slice none 0 0]), 4, 32) := by kernel_rfl

theorem pts_one (x : Pv) (h : x.2.oneCell' = true) : ∀ u ∈ ptC x, u.oneCell' = true := by
  intro u hu
  simp [ptC] at hu
  rcases hu with rfl | rfl | rfl | rfl
  · rfl
  · rfl
  · rfl
  · exact h

def CompPost (l : List Pt) (w : World) (e : Ending) (w' : World) : Prop := Below w.heap.size w w' ∧ ∃ v, e = .returned (.agg #[v]) ∧ PatOwn w' w.heap.size v l
end Go.Proofs.Ytiacoomeakodnaa
