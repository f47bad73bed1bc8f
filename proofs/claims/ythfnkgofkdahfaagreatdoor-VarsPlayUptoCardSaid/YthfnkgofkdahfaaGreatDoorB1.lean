/-
  What a call on a Vars leaves as it was: whatever lies in other blocks than its own two. What a Vars holds.
-/
import Derived.Test.YthfnkgofkdahfaaGreatDoorV1
import Derived.Test.YthfnkgofkdahfaaGreatDoorM2
import Derived.Test.YthfnkgofkdahfaaGreatDoorK4
namespace Go.Proofs.YthfnkgofkdahfaaGreatDoor
open Go.RowKit

/-- Blocks g and mb may have turned, new ones have come; no other block has turned. -/
structure But (g mb : Nat) (w w' : World) : Prop where
  os : w'.os = w.os
  tape : w'.tape = w.tape
  output : w'.output = w.output
  size : w.heap.size ≤ w'.heap.size
  block : ∀ b, b < w.heap.size → b ≠ g → b ≠ mb → w'.heap[b]? = w.heap[b]?
section
variable {g mb : Nat} {a w w' : World}
theorem But.refl (g mb : Nat) (w : World) : But g mb w w := ⟨rfl, rfl, rfl, Nat.le_refl _, fun _ _ _ _ => rfl⟩
theorem But.trans (h : But g mb a w) (k : But g mb w w') : But g mb a w' :=
  ⟨k.os.trans h.os, k.tape.trans h.tape, k.output.trans h.output, Nat.le_trans h.size k.size, fun b hb h1 h2 => (k.block b (Nat.lt_of_lt_of_le hb h.size) h1 h2).trans (h.block b hb h1 h2)⟩
theorem But.of_below (h : Below w.heap.size w w') : But g mb w w' := ⟨h.os, h.tape, h.output, h.size, fun b hb _ _ => h.block b hb⟩
theorem But.on (h : But g mb a w) (k : Below w.heap.size w w') : But g mb a w' := h.trans (But.of_below k)
theorem But.below (h : But g mb w w') {B : Nat} (h1 : B ≤ g) (h2 : B ≤ mb) (hB : B ≤ w.heap.size) : Below B w w' :=
  ⟨h.os, h.tape, h.output, h.size, fun b hb => h.block b (by omega) (by omega) (by omega)⟩
theorem But.drewN (h : But g mb a w) (n : Nat) : But g mb a (w.drewN n) := h.on (below_drewN (Below.refl _ _) n)
theorem But.alloc (h : But g mb a w) (o : Obj) : But g mb a (w.alloc o) := h.on ((Below.refl _ _).alloc (Nat.le_refl _) o)
theorem But.setG (h : But g mb a w) (i : Nat) (u : Value) : But g mb a (w.setCell ⟨g, i, none⟩ u) :=
  have k := (Below.refl 0 w).setCell (p := ⟨g, i, none⟩) (Nat.zero_le _) u
  h.trans ⟨k.os, k.tape, k.output, k.size, fun b _ h1 _ => Below.heap_setCell _ _ _ _ h1⟩
theorem But.setNew (h : But g mb a w) {p : Addr} (hp : a.heap.size ≤ p.block) (u : Value) : But g mb a (w.setCell p u) :=
  ⟨h.os, h.tape, h.output, Nat.le_trans h.size (by simp [World.setCell]), fun q hq h1 h2 => (Below.heap_setCell _ _ _ _ (by omega)).trans (h.block q hq h1 h2)⟩
theorem But.grownM (h : But g mb a w) (hg : w.grownBy w' (some mb)) : But g mb a w' :=
  h.trans ⟨hg.os, hg.tape, hg.output, hg.size, fun b hb _ h2 => hg.block b hb (fun e => h2 (Option.some.inj e))⟩
theorem Blk.but {q : Nat} {t : TypeId} {cs : Array Value} (h : Blk w q t cs) (hb : But g mb w w') (h1 : q ≠ g) (h2 : q ≠ mb) : Blk w' q t cs := (hb.block q h.lt h1 h2).trans h
theorem own_but {base : Nat} {e : TypeId} {size : Nat} {v : Value} {n : Nat} {xs : List Value} (h : w.ownsRow base e size v n xs) (hb : But g mb w w') (h1 : v.ownBlock ≠ some g) (h2 : v.ownBlock ≠ some mb) : w'.ownsRow base e size v n xs := by
  obtain ⟨q1, q2⟩ := h
  refine ⟨q1, ?_⟩
  rcases q2 with q2 | ⟨b, cap, cur, r1, r2, r3, r4⟩
  · exact .inl q2
  · refine .inr ⟨b, cap, cur, r1, r2, ?_, r4⟩
    subst r1
    rw [hb.block b (Array.getElem?_eq_some_iff.1 r3).1 (fun e => h1 (by rw [e]; rfl)) (fun e => h2 (by rw [e]; rfl))]
    exact r3
theorem own_ge {base : Nat} {e : TypeId} {size : Nat} {v : Value} {n : Nat} {xs : List Value} (h : w.ownsRow base e size v n xs) {q : Nat} (hq : q < base) : v.ownBlock ≠ some q := own_ne h hq
theorem MapS.but {n q : Nat} {m : List UInt8 → Option Value} (h : MapS w q n m) (hb : But g mb w w') (h1 : q ≠ g) (h2 : q ≠ mb) : MapS w' q n m := h.block (hb.block q h.lt h1 h2)
theorem Elems.but {B : Nat} {p : Option Addr} {n : Nat} {xs : List Value} (h : Elems w B p n xs) (hb : But g mb w w') (h1 : B ≤ g) (h2 : B ≤ mb) (hB : B ≤ w.heap.size) : Elems w' B p n xs := h.below (hb.below h1 h2 hB)
end

/-- The names are names; nothing is long. -/
def Good (l : List (Nm × Xd)) : Prop := ∀ p ∈ l, nameL p.1 = true ∧ p.1.length ≤ 1048576 ∧ p.2.text.length ≤ 1048576
theorem Good.put {l : List (Nm × Xd)} (h : Good l) {k : Nm} {x : Xd} (hk : nameL k = true) (h1 : k.length ≤ 1048576) (h2 : x.text.length ≤ 1048576) : Good (putL l k x) := by
  intro p hp
  rw [putL, List.mem_append, List.mem_cons] at hp
  rcases hp with hp | rfl | hp
  · exact h p (List.mem_filter.1 hp).1
  · exact ⟨hk, h1, h2⟩
  · exact h p (List.mem_filter.1 hp).1
theorem Good.find {l : List (Nm × Xd)} (h : Good l) (k : Nm) : (find l k).text.length ≤ 1048576 := by
  by_cases e : Go.Proofs.YthfnkgofkdahfaaGreatDoor.find l k = d0
  · rw [e]; exact Nat.zero_le _
  · exact (h _ (find_mem e)).2.2
theorem nameL_noEq {k : Nm} (h : nameL k = true) : 61 ∉ k := by
  intro hm
  obtain ⟨i, hi, e⟩ := List.getElem_of_mem hm
  have hc : nmB (i == 0) (k.getD i 0) = false := by
    rw [List.getD_eq_getElem?_getD, List.getElem?_eq_getElem hi, e]
    cases (i == 0) <;> rfl
  rw [name_no hi hc] at h
  cases h
theorem Good.noEq {l : List (Nm × Xd)} (h : Good l) : NoEq l := fun p hp => nameL_noEq (h p hp).1

/-- The Vars at block g, its map in block mb (of at most n entries), its parameters' slice v: the variables l, the parameters xs, how the last command ended. All lies from lo on. -/
def VS (v : Value) (w : World) (lo g mb n : Nat) (l : List (Nm × Xd)) (xs : List ByteArray) (st : Int) : Prop :=
  ∃ m, (lo ≤ g ∧ lo ≤ mb ∧ mb ≠ g) ∧ (v.ownBlock ≠ some g ∧ v.ownBlock ≠ some mb) ∧ Blk w g 44 #[.map (some mb), .string ⟨#[115, 104]⟩, v, .int .i64 st] ∧ OwnS w lo v xs ∧ MapS w mb n m ∧ MRel m l ∧ Rising l ∧ Good l
def VSt (w : World) (lo g mb n : Nat) (l : List (Nm × Xd)) (xs : List ByteArray) (st : Int) : Prop := ∃ v, VS v w lo g mb n l xs st
section
variable {v : Value} {w w' : World} {lo g mb n : Nat} {l : List (Nm × Xd)} {xs : List ByteArray} {st : Int}
theorem VS.lt (h : VS v w lo g mb n l xs st) : g < w.heap.size ∧ mb < w.heap.size := by
  obtain ⟨m, _, _, h1, _, h2, _⟩ := h
  exact ⟨h1.lt, h2.lt⟩
theorem VS.ge (h : VS v w lo g mb n l xs st) : lo ≤ g ∧ lo ≤ mb ∧ mb ≠ g := by
  obtain ⟨m, h1, _⟩ := h
  exact h1
theorem VS.own_lt (h : VS v w lo g mb n l xs st) : ∀ b, v.ownBlock = some b → b < w.heap.size := by
  obtain ⟨m, _, _, _, h1, _⟩ := h
  exact fun b hb => (World.ownsRow.lt h1 b hb).2
theorem VS.below (h : VS v w lo g mb n l xs st) (hb : Below w.heap.size w w') : VS v w' lo g mb n l xs st := by
  obtain ⟨m, h1, h2, h3, h4, h5, h6⟩ := h
  exact ⟨m, h1, h2, h3.below hb h3.lt, h4.below hb, h5.below hb, h6⟩
/-- Another Vars turns, whose blocks are elder. -/
theorem VS.but {g' mb' : Nat} (h : VS v w lo g mb n l xs st) (hb : But g' mb' w w') (h1 : g' < lo) (h2 : mb' < lo) : VS v w' lo g mb n l xs st := by
  obtain ⟨m, q1, q2, q3, q4, q5, q6⟩ := h
  exact ⟨m, q1, q2, q3.but hb (by omega) (by omega), own_but q4 hb (own_ge q4 h1) (own_ge q4 h2), q5.but hb (by omega) (by omega), q6⟩
/-- A cell elsewhere turns. -/
theorem VS.far (h : VS v w lo g mb n l xs st) {p : Addr} (h1 : p.block ≠ g) (h2 : p.block ≠ mb) (h3 : v.ownBlock ≠ some p.block) (u : Value) : VS v (w.setCell p u) lo g mb n l xs st := by
  obtain ⟨m, q1, q2, q3, q4, q5, q6⟩ := h
  refine ⟨m, q1, q2, q3.far (Ne.symm h1) u, ?_, q5.set (Ne.symm h2) u, q6⟩
  obtain ⟨r1, r2⟩ := q4
  refine ⟨r1, ?_⟩
  rcases r2 with r2 | ⟨b, cap, cur, s1, s2, s3, s4⟩
  · exact .inl r2
  · refine .inr ⟨b, cap, cur, s1, s2, ?_, s4⟩
    subst s1
    rw [Below.heap_setCell _ _ _ _ (fun e => h3 (by rw [← e]; rfl))]
    exact s3
theorem VS.mono (h : VS v w lo g mb n l xs st) {n' : Nat} (hn : n ≤ n') : VS v w lo g mb n' l xs st := by
  obtain ⟨m, q1, q2, q3, q4, q5, q6⟩ := h
  exact ⟨m, q1, q2, q3, q4, q5.mono hn, q6⟩
theorem VSt.lt (h : VSt w lo g mb n l xs st) : g < w.heap.size ∧ mb < w.heap.size := by
  obtain ⟨v, h⟩ := h
  exact h.lt
theorem VSt.ge (h : VSt w lo g mb n l xs st) : lo ≤ g ∧ lo ≤ mb ∧ mb ≠ g := by
  obtain ⟨v, h⟩ := h
  exact h.ge
theorem VSt.below (h : VSt w lo g mb n l xs st) (hb : Below w.heap.size w w') : VSt w' lo g mb n l xs st := by
  obtain ⟨v, h⟩ := h
  exact ⟨v, h.below hb⟩
theorem VSt.but {g' mb' : Nat} (h : VSt w lo g mb n l xs st) (hb : But g' mb' w w') (h1 : g' < lo) (h2 : mb' < lo) : VSt w' lo g mb n l xs st := by
  obtain ⟨v, h⟩ := h
  exact ⟨v, h.but hb h1 h2⟩
theorem VSt.mono (h : VSt w lo g mb n l xs st) {n' : Nat} (hn : n ≤ n') : VSt w lo g mb n' l xs st := by
  obtain ⟨v, h⟩ := h
  exact ⟨v, h.mono hn⟩
theorem VSt.good (h : VSt w lo g mb n l xs st) : Rising l ∧ Good l := by
  obtain ⟨v, m, _, _, _, _, _, _, q⟩ := h
  exact q
end
end Go.Proofs.YthfnkgofkdahfaaGreatDoor
