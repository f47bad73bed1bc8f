/-
  What a call leaves as it was: whatever lies in other blocks than two.
-/
import Derived.Test.YtpgneaekflhgnaaDoorSl
import Derived.Lib.QuietBelow
namespace Go.Proofs.YtpgneaekflhgnaaDoor
open Go.RowKit

/-- Blocks g and mb may have turned, new ones have come; no other block has turned. -/
structure But (g mb : Nat) (w w' : World) : Prop where
  os : w'.os = w.os
  tape : w'.tape = w.tape
  output : w'.output = w.output
  size : w.heap.size ≤ w'.heap.size
  block : ∀ b, b < w.heap.size → b ≠ g → b ≠ mb → w'.heap[b]? = w.heap[b]?
section
variable {g mb : Nat} {a w w' : World}
theorem But.refl (g mb : Nat) (w : World) : But g mb w w := ⟨rfl, rfl, rfl, Nat.le_refl _, fun _ _ _ _ => rfl⟩
theorem But.trans (h : But g mb a w) (k : But g mb w w') : But g mb a w' :=
  ⟨k.os.trans h.os, k.tape.trans h.tape, k.output.trans h.output, Nat.le_trans h.size k.size, fun b hb h1 h2 => (k.block b (Nat.lt_of_lt_of_le hb h.size) h1 h2).trans (h.block b hb h1 h2)⟩
theorem But.of_below (h : Below w.heap.size w w') : But g mb w w' := ⟨h.os, h.tape, h.output, h.size, fun b hb _ _ => h.block b hb⟩
theorem But.on (h : But g mb a w) (k : Below w.heap.size w w') : But g mb a w' := h.trans (But.of_below k)
theorem But.below (h : But g mb w w') {B : Nat} (h1 : B ≤ g) (h2 : B ≤ mb) (hB : B ≤ w.heap.size) : Below B w w' :=
  ⟨h.os, h.tape, h.output, h.size, fun b hb => h.block b (by omega) (by omega) (by omega)⟩
theorem But.drewN (h : But g mb a w) (n : Nat) : But g mb a (w.drewN n) := h.on (below_drewN (Below.refl _ _) n)
theorem But.alloc (h : But g mb a w) (o : Obj) : But g mb a (w.alloc o) := h.on ((Below.refl _ _).alloc (Nat.le_refl _) o)
theorem But.setG (h : But g mb a w) (i : Nat) (u : Value) : But g mb a (w.setCell ⟨g, i, none⟩ u) :=
  have k := (Below.refl 0 w).setCell (p := ⟨g, i, none⟩) (Nat.zero_le _) u
  h.trans ⟨k.os, k.tape, k.output, k.size, fun b _ h1 _ => Below.heap_setCell _ _ _ _ h1⟩
theorem But.setNew (h : But g mb a w) {p : Addr} (hp : a.heap.size ≤ p.block) (u : Value) : But g mb a (w.setCell p u) :=
  ⟨h.os, h.tape, h.output, Nat.le_trans h.size (by simp [World.setCell]), fun q hq h1 h2 => (Below.heap_setCell _ _ _ _ (by omega)).trans (h.block q hq h1 h2)⟩
theorem But.grownM (h : But g mb a w) (hg : w.grownBy w' (some mb)) : But g mb a w' :=
  h.trans ⟨hg.os, hg.tape, hg.output, hg.size, fun b hb _ h2 => hg.block b hb (fun e => h2 (Option.some.inj e))⟩
theorem Blk.but {q : Nat} {t : TypeId} {cs : Array Value} (h : Blk w q t cs) (hb : But g mb w w') (h1 : q ≠ g) (h2 : q ≠ mb) : Blk w' q t cs := (hb.block q h.lt h1 h2).trans h
theorem own_but {base : Nat} {e : TypeId} {size : Nat} {v : Value} {n : Nat} {xs : List Value} (h : w.ownsRow base e size v n xs) (hb : But g mb w w') (h1 : v.ownBlock ≠ some g) (h2 : v.ownBlock ≠ some mb) : w'.ownsRow base e size v n xs := by
  obtain ⟨q1, q2⟩ := h
  refine ⟨q1, ?_⟩
  rcases q2 with q2 | ⟨b, cap, cur, r1, r2, r3, r4⟩
  · exact .inl q2
  · refine .inr ⟨b, cap, cur, r1, r2, ?_, r4⟩
    subst r1
    rw [hb.block b (Array.getElem?_eq_some_iff.1 r3).1 (fun e => h1 (by rw [e]; rfl)) (fun e => h2 (by rw [e]; rfl))]
    exact r3
theorem own_ge {base : Nat} {e : TypeId} {size : Nat} {v : Value} {n : Nat} {xs : List Value} (h : w.ownsRow base e size v n xs) {q : Nat} (hq : q < base) : v.ownBlock ≠ some q := own_ne h hq
theorem Elems.but {B : Nat} {p : Option Addr} {n : Nat} {xs : List Value} (h : Elems w B p n xs) (hb : But g mb w w') (h1 : B ≤ g) (h2 : B ≤ mb) (hB : B ≤ w.heap.size) : Elems w' B p n xs := h.below (hb.below h1 h2 hB)
end


end Go.Proofs.YtpgneaekflhgnaaDoor
