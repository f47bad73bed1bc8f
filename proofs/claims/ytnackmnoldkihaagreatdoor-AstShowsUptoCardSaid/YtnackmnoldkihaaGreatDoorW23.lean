/-
  The walk of the copy of a redirection.
-/
import Derived.Test.YtnackmnoldkihaaGreatDoorW4
import Derived.Test.YtnackmnoldkihaaGreatDoorW16
import Derived.Test.YtnackmnoldkihaaGreatDoorW22
import Derived.Test.YtnackmnoldkihaaGreatDoorW11
set_option linter.unusedVariables false
set_option linter.unusedSimpArgs false
/-
  What lies in some blocks alone: a world from which the other blocks' cells are struck.
-/
namespace Go.Proofs.YtnackmnoldkihaaGreatDoor
open Go.RowKit

/-- w, the blocks that q doesn't name emptied. -/
def onlyW (w : World) (q : Nat → Bool) : World := { w with heap := w.heap.mapIdx fun i o => if q i then o else .cells #[] 0 (0, 0) }
theorem onlyW_size (w : World) (q : Nat → Bool) : (onlyW w q).heap.size = w.heap.size := by simp [onlyW]
theorem onlyW_yes (w : World) {q : Nat → Bool} {b : Nat} (h : q b = true) (o : Nat) : (onlyW w q).cell? ⟨b, o, none⟩ = w.cell? ⟨b, o, none⟩ := by
 simp only [World.cell?, onlyW, Array.getElem?_mapIdx]
 cases w.heap[b]? with
 | none => rfl
 | some x => simp [h]
theorem onlyW_no (w : World) {q : Nat → Bool} {b : Nat} (h : q b = false) (o : Nat) : (onlyW w q).cell? ⟨b, o, none⟩ = none := by
 simp only [World.cell?, onlyW, Array.getElem?_mapIdx]
 cases w.heap[b]? with
 | none => rfl
 | some x => simp [h]
/-- Slices stay, where the blocks that are named stay. -/
theorem Sl.only {w w' : World} {q q' : Nat → Bool} {B B' size n : Nat} {v : Value} {xs : List Value} (h : Sl (onlyW w q) B size v n xs) (hB : B ≤ B') (hk : ∀ b, b < B → q b = true → q' b = true ∧ ∀ o, w'.cell? ⟨b, o, none⟩ = w.cell? ⟨b, o, none⟩) : Sl (onlyW w' q') B' size v n xs := by
 obtain ⟨h1, a, cap, h2, h3, h4, h5⟩ := h
 refine ⟨h1, a, cap, h2, h3, h4, ?_⟩
 rcases h5 with h5 | ⟨b, off, ha, hb, hx⟩
 · exact .inl h5
 · refine .inr ⟨b, off, ha, by omega, fun j hj => ?_⟩
   have hxj := hx j hj
   cases hq : q b with
   | false =>
     rw [onlyW_no w hq, List.getElem?_eq_getElem (by omega)] at hxj
     cases hxj
   | true =>
     obtain ⟨hq', hc⟩ := hk b hb hq
     rw [onlyW_yes w hq] at hxj
     rw [onlyW_yes w' hq', hc]
     exact hxj
theorem Sl.off {w : World} {q : Nat → Bool} {B size n : Nat} {v : Value} {xs : List Value} (h : Sl (onlyW w q) B size v n xs) : Sl w B size v n xs := by
 obtain ⟨h1, a, cap, h2, h3, h4, h5⟩ := h
 refine ⟨h1, a, cap, h2, h3, h4, ?_⟩
 rcases h5 with h5 | ⟨b, off, ha, hb, hx⟩
 · exact .inl h5
 · refine .inr ⟨b, off, ha, hb, fun j hj => ?_⟩
   have hxj := hx j hj
   cases hq : q b with
   | false =>
     rw [onlyW_no w hq, List.getElem?_eq_getElem (by omega)] at hxj
     cases hxj
   | true => rw [onlyW_yes w hq] at hxj; exact hxj
theorem PtsIn.off {w : World} {q : Nat → Bool} {B d : Nat} {l : List Pt} {v : Value} (h : PtsIn (onlyW w q) B d l v) : PtsIn w B d l v := (in_keep (fun _ _ _ _ h => h.off) d).1 _ _ h
theorem NdsIn.off {w : World} {q : Nat → Bool} {B d : Nat} {l : List Nd} {v : Value} (h : NdsIn (onlyW w q) B d l v) : NdsIn w B d l v := (in_keep (fun _ _ _ _ h => h.off) d).2 _ _ h

/-- The blocks from n on, but for some and for one. -/
def freshB (n : Nat) (xs : List Nat) (g : Option Nat) (b : Nat) : Bool := decide (n ≤ b) && (!xs.contains b && !(g == some b))
theorem freshB_iff {n : Nat} {xs : List Nat} {g : Option Nat} {b : Nat} : freshB n xs g b = true ↔ n ≤ b ∧ b ∉ xs ∧ g ≠ some b := by simp [freshB]
/-- How what lies in new blocks alone is kept. -/
structure Kept (w : World) (n : Nat) (xs : List Nat) (g : Option Nat) (B : Nat) (w' : World) (n' : Nat) (xs' : List Nat) (g' : Option Nat) (B' : Nat) : Prop where
 le : B ≤ B'
 keep : ∀ b, b < B → n ≤ b → b ∉ xs → g ≠ some b → (n' ≤ b ∧ b ∉ xs' ∧ g' ≠ some b) ∧ ∀ o, w'.cell? ⟨b, o, none⟩ = w.cell? ⟨b, o, none⟩
section
variable {w w' : World} {n n' B B' : Nat} {xs xs' : List Nat} {g g' : Option Nat}
theorem Kept.sl (h : Kept w n xs g B w' n' xs' g' B') (size k : Nat) (v : Value) (us : List Value) (hs : Sl (onlyW w (freshB n xs g)) B size v k us) : Sl (onlyW w' (freshB n' xs' g')) B' size v k us :=
 hs.only h.le fun b hb hq => by
  obtain ⟨h1, h2, h3⟩ := freshB_iff.1 hq
  obtain ⟨h4, h5⟩ := h.keep b hb h1 h2 h3
  exact ⟨freshB_iff.2 h4, h5⟩
theorem Kept.trans {w2 : World} {n2 B2 : Nat} {xs2 : List Nat} {g2 : Option Nat} (h : Kept w n xs g B w' n' xs' g' B') (h' : Kept w' n' xs' g' B' w2 n2 xs2 g2 B2) : Kept w n xs g B w2 n2 xs2 g2 B2 :=
 ⟨Nat.le_trans h.le h'.le, fun b h1 h2 h3 h4 => by
  obtain ⟨⟨k1, k2, k3⟩, k4⟩ := h.keep b h1 h2 h3 h4
  obtain ⟨k5, k6⟩ := h'.keep b (Nat.lt_of_lt_of_le h1 h.le) k1 k2 k3
  exact ⟨k5, fun o => (k6 o).trans (k4 o)⟩⟩
theorem Kept.below (hb : Below w.heap.size w w') (hn : n' ≤ n) : Kept w n xs g w.heap.size w' n' xs g w'.heap.size :=
 ⟨hb.size, fun b h1 h2 h3 h4 => ⟨⟨by omega, h3, h4⟩, fun o => hb.cell (p := ⟨b, o, none⟩) h1⟩⟩
/-- Behind an append to a row. -/
theorem Kept.grown {row : Option Nat} {g' : Nat} (hg : w.grownBy w' row) (hr : row = some g' ∨ g' = w.heap.size) (hz : w.heap.size ≤ w'.heap.size) : Kept w n xs row w.heap.size w' n xs (some g') w'.heap.size :=
 ⟨hz, fun b h1 h2 h4 h3 => ⟨⟨h2, h4, fun e => by
  cases e
  rcases hr with hr | hr
  · exact h3 hr
  · omega⟩, fun o => World.cell?_of_block (hg.block b h1 (fun e => h3 e.symm))⟩⟩
/-- Where a block is written that is not among them. -/
theorem Kept.set {p : Addr} (hp : p.block ∈ xs) (u : Value) : Kept w n xs g w.heap.size (w.setCell p u) n xs g (w.setCell p u).heap.size :=
 ⟨by simp, fun b h1 h2 h3 h4 => ⟨⟨h2, h3, h4⟩, fun o => World.cell?_setCell_other w p _ u (fun e => by subst e; exact h3 hp)⟩⟩
/-- What is new is not in an old block. -/
theorem Kept.other {w : World} {n n' : Nat} {xs : List Nat} {g : Option Nat} (hn : n' ≤ n) (hx : ∀ b ∈ xs, b < n) (hg : ∀ b, g = some b → b < n) : Kept w n [] none w.heap.size w n' xs g w.heap.size :=
 ⟨Nat.le_refl _, fun b h1 h2 _ _ => ⟨⟨by omega, fun e => by have := hx b e; omega, fun e => by have := hg b e; omega⟩, fun o => rfl⟩⟩
theorem Kept.forget {w : World} {n : Nat} {xs : List Nat} {g : Option Nat} : Kept w n xs g w.heap.size w n [] none w.heap.size :=
 ⟨Nat.le_refl _, fun b h1 h2 _ _ => ⟨⟨h2, by simp, by simp⟩, fun o => rfl⟩⟩
theorem Kept.row {w : World} {n : Nat} {xs : List Nat} {g : Option Nat} : Kept w n xs g w.heap.size w n xs none w.heap.size :=
 ⟨Nat.le_refl _, fun b h1 h2 h3 _ => ⟨⟨h2, h3, by simp⟩, fun o => rfl⟩⟩
end
section
variable {w w' : World} {n n' B B' d : Nat} {xs xs' : List Nat} {g g' : Option Nat} (h : Kept w n xs g B w' n' xs' g' B')
include h
theorem Kept.pts {l : List Pt} {v : Value} (hl : PtsIn (onlyW w (freshB n xs g)) B d l v) : PtsIn (onlyW w' (freshB n' xs' g')) B' d l v := (in_keep h.sl d).1 _ _ hl
theorem Kept.nds {l : List Nd} {v : Value} (hl : NdsIn (onlyW w (freshB n xs g)) B d l v) : NdsIn (onlyW w' (freshB n' xs' g')) B' d l v := (in_keep h.sl d).2 _ _ hl
theorem Kept.wds {l : List (List Pt)} {v : Value} (hl : WdsIn (onlyW w (freshB n xs g)) B d l v) : WdsIn (onlyW w' (freshB n' xs' g')) B' d l v := hl.keep h.sl
theorem Kept.lss {l : List (List Nd)} {v : Value} (hl : LssIn (onlyW w (freshB n xs g)) B d l v) : LssIn (onlyW w' (freshB n' xs' g')) B' d l v := hl.keep h.sl
theorem Kept.ass {l : List As} {v : Value} (hl : AssIn (onlyW w (freshB n xs g)) B d l v) : AssIn (onlyW w' (freshB n' xs' g')) B' d l v := hl.imp (h.sl _ _ _) fun _ _ _ k => k.keep h.sl
theorem Kept.rds {l : List Rd} {v : Value} (hl : RdsIn (onlyW w (freshB n xs g)) B d l v) : RdsIn (onlyW w' (freshB n' xs' g')) B' d l v := hl.imp (h.sl _ _ _) fun _ _ _ k => k.keep h.sl
theorem Kept.ars {l : List Ar} {v : Value} (hl : ArsIn (onlyW w (freshB n xs g)) B d l v) : ArsIn (onlyW w' (freshB n' xs' g')) B' d l v := hl.imp (h.sl _ _ _) fun _ _ _ k => k.keep h.sl
theorem Kept.ptc {p : Pt} {c : List Value} (hl : PtC (onlyW w (freshB n xs g)) B d p c) : PtC (onlyW w' (freshB n' xs' g')) B' d p c := hl.keep h.sl
theorem Kept.asc {a : As} {c : List Value} (hl : AsC (onlyW w (freshB n xs g)) B d a c) : AsC (onlyW w' (freshB n' xs' g')) B' d a c := hl.keep h.sl
theorem Kept.rdc {a : Rd} {c : List Value} (hl : RdC (onlyW w (freshB n xs g)) B d a c) : RdC (onlyW w' (freshB n' xs' g')) B' d a c := hl.keep h.sl
theorem Kept.arc {a : Ar} {c : List Value} (hl : ArC (onlyW w (freshB n xs g)) B d a c) : ArC (onlyW w' (freshB n' xs' g')) B' d a c := hl.keep h.sl
theorem Kept.ndc {a : Nd} {c : List Value} (hl : NdC (onlyW w (freshB n xs g)) B d a c) : NdC (onlyW w' (freshB n' xs' g')) B' d a c := hl.keep h.sl
end

/-- What is told of things in new blocks stays where those stay. -/
def CKeeps {α : Type} (F : World → Nat → α → List Value → Prop) : Prop := ∀ {w w' : World} {n n' B B' : Nat} {xs xs' : List Nat} {g g' : Option Nat}, Kept w n xs g B w' n' xs' g' B' → ∀ x c, F (onlyW w (freshB n xs g)) B x c → F (onlyW w' (freshB n' xs' g')) B' x c
/-- So many things have been copied to a row of the call's own. -/
def Copied {α : Type} (w : World) (n : Nat) (xs : List Nat) (e : TypeId) (size : Nat) (F : World → Nat → α → List Value → Prop) (l : List α) (k : Nat) (v : Value) : Prop :=
 ∃ cs : List (List Value), cs.length = k ∧ (∀ c ∈ cs, c.length = size) ∧ w.ownsRow n e size v k cs.flatten ∧ ∀ (i : Nat) (x : α) (c : List Value), i < k → l[i]? = some x → cs[i]? = some c → F (onlyW w (freshB n xs v.ownBlock)) w.heap.size x c
section
variable {α : Type} {w w' : World} {n : Nat} {xs : List Nat} {e : TypeId} {size k : Nat} {F : World → Nat → α → List Value → Prop} {l : List α} {v : Value}
theorem Copied.start (w : World) (n : Nat) (xs : List Nat) (e : TypeId) (size : Nat) (F : World → Nat → α → List Value → Prop) (l : List α) : Copied w n xs e size F l 0 (.slice none 0 0) :=
 ⟨[], rfl, by simp, ⟨by simp, .inl ⟨rfl, rfl⟩⟩, fun i x c hi => by omega⟩
theorem Copied.own (h : Copied w n xs e size F l k v) : ∃ cs : List (List Value), cs.length = k ∧ w.ownsRow n e size v k cs.flatten := by
 obtain ⟨cs, h1, _, h3, _⟩ := h
 exact ⟨cs, h1, h3⟩
theorem Copied.moved (h : Copied w n xs e size F l k v) (hF : CKeeps F) (hK : Kept w n xs v.ownBlock w.heap.size w' n xs v.ownBlock w'.heap.size) (ho : ∀ us, w.ownsRow n e size v k us → w'.ownsRow n e size v k us) : Copied w' n xs e size F l k v := by
 obtain ⟨cs, h1, h2, h3, h4⟩ := h
 exact ⟨cs, h1, h2, ho _ h3, fun i x c hi hx hc => hF hK x c (h4 i x c hi hx hc)⟩
theorem Copied.push {w4 w5 : World} {x : α} {c : List Value} {g cap : Nat} (hg : w4.grownBy w5 v.ownBlock) (hr : v.ownBlock = some g ∨ g = w4.heap.size) {cs : List (List Value)} (ho : w5.ownsRow n e size (.slice (some ⟨g, 0, none⟩) (k + 1) cap) (k + 1) (cs.flatten ++ c))
 (hF : CKeeps F)
 (hb : Below w.heap.size w w4) (hl : cs.length = k) (hs : ∀ c ∈ cs, c.length = size) (hall : ∀ (i : Nat) (x : α) (c : List Value), i < k → l[i]? = some x → cs[i]? = some c → F (onlyW w (freshB n xs v.ownBlock)) w.heap.size x c)
 (hx : l[k]? = some x) (hc : c.length = size) (hnew : F (onlyW w4 (freshB n xs v.ownBlock)) w4.heap.size x c) : Copied w5 n xs e size F l (k + 1) (.slice (some ⟨g, 0, none⟩) (k + 1) cap) := by
 have K1 := Kept.below (n := n) (n' := n) (xs := xs) (g := v.ownBlock) hb (Nat.le_refl _)
 have K2 := Kept.grown (n := n) (xs := xs) hg hr hg.size
 have hob : (Value.slice (some ⟨g, 0, none⟩) (k + 1) cap).ownBlock = some g := rfl
 refine ⟨cs ++ [c], by simp [hl], fun d hd => ?_, ?_, fun i y d hi hy hd => ?_⟩
 · rcases List.mem_append.1 hd with hd | hd
   · exact hs d hd
   · simp at hd; subst hd; exact hc
 · rw [List.flatten_append]; simpa using ho
 · rw [hob]
   by_cases hik : i < k
   · rw [List.getElem?_append_left (by omega)] at hd
     exact hF K2 _ _ (hF K1 _ _ (hall i y d hik hy hd))
   · obtain rfl : i = k := by omega
     rw [List.getElem?_append_right (by omega), hl, Nat.sub_self] at hd
     simp at hd; subst hd
     rw [hx] at hy; cases hy
     exact hF K2 _ _ hnew
/-- The row, when all have been copied. -/
theorem Copied.done (h : Copied w n xs e size F l l.length v) (hl : l.length ≤ bigN) (hF : CKeeps F) (hxs : ∀ b, v.ownBlock = some b → b ∉ xs) : SlOf (onlyW w (freshB n xs none)) w.heap.size size (F (onlyW w (freshB n xs none)) w.heap.size) l v := by
 obtain ⟨cs, h1, h2, h3, h4⟩ := h
 refine ⟨hl, cs, h1, h2, ?_, fun i x c hx hc => hF Kept.row x c (h4 i x c (List.getElem?_eq_some_iff.1 hx).1 hx hc)⟩
 have hs := Sl.of_own h3
 obtain ⟨k1, a, cap, rfl, k3, k4, k5⟩ := hs
 refine ⟨k1, a, cap, rfl, k3, k4, ?_⟩
 rcases k5 with k5 | ⟨b, off, rfl, kb, kc⟩
 · exact .inl k5
 · refine .inr ⟨b, off, rfl, kb, fun j hj => ?_⟩
   have hob : n ≤ b := (World.ownsRow.lt h3 _ rfl).1
   rw [onlyW_yes w (freshB_iff.2 ⟨hob, hxs b rfl, by simp⟩)]
   exact kc j hj
end
section
variable {w' : World} {m d : Nat}
theorem later_pts {l : List Pt} {v : Value} (h : PtsIn (onlyW w' (freshB m [] none)) w'.heap.size d l v) : ∀ W', Below w'.heap.size w' W' → ∀ n xs g, n ≤ m → (∀ b ∈ xs, b < m) → (∀ b, g = some b → b < m) → PtsIn (onlyW W' (freshB n xs g)) W'.heap.size d l v :=
 fun _ hb _ _ _ hn hx hg => (Kept.other hn hx hg).pts ((Kept.below hb (Nat.le_refl m)).pts h)
theorem later_nds {l : List Nd} {v : Value} (h : NdsIn (onlyW w' (freshB m [] none)) w'.heap.size d l v) : ∀ W', Below w'.heap.size w' W' → ∀ n xs g, n ≤ m → (∀ b ∈ xs, b < m) → (∀ b, g = some b → b < m) → NdsIn (onlyW W' (freshB n xs g)) W'.heap.size d l v :=
 fun _ hb _ _ _ hn hx hg => (Kept.other hn hx hg).nds ((Kept.below hb (Nat.le_refl m)).nds h)
theorem later_wds {l : List (List Pt)} {v : Value} (h : WdsIn (onlyW w' (freshB m [] none)) w'.heap.size d l v) : ∀ W', Below w'.heap.size w' W' → ∀ n xs g, n ≤ m → (∀ b ∈ xs, b < m) → (∀ b, g = some b → b < m) → WdsIn (onlyW W' (freshB n xs g)) W'.heap.size d l v :=
 fun _ hb _ _ _ hn hx hg => (Kept.other hn hx hg).wds ((Kept.below hb (Nat.le_refl m)).wds h)
theorem later_ndc {x : Nd} {c : List Value} (h : NdC (onlyW w' (freshB m [] none)) w'.heap.size d x c) : ∀ W', Below w'.heap.size w' W' → ∀ n xs g, n ≤ m → (∀ b ∈ xs, b < m) → (∀ b, g = some b → b < m) → NdC (onlyW W' (freshB n xs g)) W'.heap.size d x c :=
 fun _ hb _ _ _ hn hx hg => (Kept.other hn hx hg).ndc ((Kept.below hb (Nat.le_refl m)).ndc h)
theorem later_rdc {x : Rd} {c : List Value} (h : RdC (onlyW w' (freshB m [] none)) w'.heap.size d x c) : ∀ W', Below w'.heap.size w' W' → ∀ n xs g, n ≤ m → (∀ b ∈ xs, b < m) → (∀ b, g = some b → b < m) → RdC (onlyW W' (freshB n xs g)) W'.heap.size d x c :=
 fun _ hb _ _ _ hn hx hg => (Kept.other hn hx hg).rdc ((Kept.below hb (Nat.le_refl m)).rdc h)
end
end Go.Proofs.YtnackmnoldkihaaGreatDoor
/-
  The walk of the copy of a word.
-/
namespace Go.Proofs.YtnackmnoldkihaaGreatDoor
open Go.RowKit

/-- A copy of a word: in new blocks alone. -/
def WordC (d : Nat) : Prop := ∀ (W : World) (l : List Pt) (v : Value), PtsIn W W.heap.size d l v →
 Calls Tryz.prog 14 #[v] W fun e W' => ∃ a c, e = .returned (.slice a l.length c) ∧ PtsIn (onlyW W' (freshB W.heap.size [] none)) W'.heap.size d l (.slice a l.length c) ∧ Below W.heap.size W W'
def NodesC (d : Nat) : Prop := ∀ (W : World) (l : List Nd) (v : Value), NdsIn W W.heap.size d l v →
 Calls Tryz.prog 9 #[v] W fun e W' => ∃ a c, e = .returned (.slice a l.length c) ∧ NdsIn (onlyW W' (freshB W.heap.size [] none)) W'.heap.size d l (.slice a l.length c) ∧ Below W.heap.size W W'
theorem infoP14 : (Tryz.prog.info? 72).map (fun i => (i.zero, i.size, i.bytes)) = some (some (.agg #[.int .i64 0, .bool false, .string ByteArray.empty, .string ByteArray.empty, .slice none 0 0, .slice none 0 0]), 6, 96) := by kernel_rfl

set_option maxHeartbeats 2000000 in
set_option maxRecDepth 100000 in
theorem word_copy (d : Nat) (hWC : WordC d) (hNC : NodesC d) (l : List Pt) (v : Value) (w : World) (hl : SlOf w w.heap.size 6 (PtC w w.heap.size d) l v) :
 Calls Tryz.prog 14 #[v] w fun e W' => ∃ a c, e = .returned (.slice a l.length c) ∧ SlOf (onlyW W' (freshB w.heap.size [] none)) W'.heap.size 6 (PtC (onlyW W' (freshB w.heap.size [] none)) W'.heap.size d) l (.slice a l.length c) ∧ Below w.heap.size w W' := by
 obtain ⟨a, cap, rfl, hz⟩ := hl.len
 obtain ⟨n, hn⟩ : ∃ n, l.length = n := ⟨_, rfl⟩
 rw [hn] at hl hz ⊢
 have HL := Lib.hid hl
 have HN := Lib.hid hn
 have HWC := Lib.hid hWC
 have HNC := Lib.hid hNC
 clear hl hn hWC hNC
 go_enter Tryz.func14, Tryz.ntmps14
 go_wp2_with fail
 go_loopw [3, 8] (fun t i W => ∃ k : Nat, k ≤ n ∧ i = .int .i64 k ∧ Copied W w.heap.size [] 72 6 (fun w B => PtC w B d) l k t ∧ Below w.heap.size w W) (fun _ i _ => n - (intOf i).toNat)
 case atStart => exact ⟨0, Nat.zero_le _, rfl, Copied.start _ _ _ _ _ _ _, Below.refl _ _⟩
 case round =>
  obtain ⟨k, hk, rfl, hcp, hB⟩ := hrel
  have hBz := hB.size
  by_cases hlt : k < n
  · obtain ⟨x, hx⟩ : ∃ x, l[k]? = .some x := ⟨_, List.getElem?_eq_getElem (by rw [HN.out]; exact hlt)⟩
    have HX := Lib.hid hx
    obtain ⟨b, o, c, hi, hbB, hce, hC, _⟩ := HL.out.at 29 44 Tryz.underlying29 (by kernel_rfl) hx
    obtain ⟨a1, c1, a2, c2, rfl, ⟨hxz, hxz2⟩, _, hP, hS⟩ := hC.open
    have HXZ := Lib.hid hxz
    have HXZ2 := Lib.hid hxz2
    obtain ⟨cs, q1, q2, q3, q4⟩ := hcp
    obtain ⟨sa, sc, rfl⟩ := own_shape q3
    have Q1 := Lib.hid q1
    have Q2 := Lib.hid q2
    have Q3 := Lib.hid q3
    have Q4 := Lib.hid q4
    have HP : Hid (PtsIn w w.heap.size d x.word (.slice a1 x.word.length c1)) := Lib.hid hP
    have HS : Hid (NdsIn w w.heap.size d x.body (.slice a2 x.body.length c2)) := Lib.hid hS
    have e0 := (hB.cell hbB).trans (hce 0 _ rfl)
    have e1 := (hB.cell hbB).trans (hce 1 _ rfl)
    have e2 := (hB.cell hbB).trans (hce 2 _ rfl)
    have e3 := (hB.cell hbB).trans (hce 3 _ rfl)
    have e4 := (hB.cell hbB).trans (hce 4 _ rfl)
    have e5 := (hB.cell hbB).trans (hce 5 _ rfl)
    have hbB' := Nat.lt_of_lt_of_le hbB hB.size
    rw [Nat.add_zero] at e0
    clear hx hce hP hS hC hxz hxz2 q1 q2 q3 q4
    go_upto_region 5 with fail
    obtain ⟨X, hX⟩ : ∃ X, X = wr.alloc (.cells #[.int .i64 x.kind, .bool x.quoted, .string x.text, .string x.op, .slice a1 x.word.length c1, .slice a2 x.body.length c2] 44) := ⟨_, rfl⟩
    have HBX : Hid (Below wr.heap.size wr X) := Lib.hid (by rw [hX]; exact bg)
    have x0 : X.cell? ⟨wr.heap.size, 0, none⟩ = some (.int .i64 x.kind) := by rw [hX]; simp
    have x1 : X.cell? ⟨wr.heap.size, 1, none⟩ = some (.bool x.quoted) := by rw [hX]; simp
    have x2 : X.cell? ⟨wr.heap.size, 2, none⟩ = some (.string x.text) := by rw [hX]; simp
    have x3 : X.cell? ⟨wr.heap.size, 3, none⟩ = some (.string x.op) := by rw [hX]; simp
    have x4 : X.cell? ⟨wr.heap.size, 4, none⟩ = some (.slice a1 x.word.length c1) := by rw [hX]; simp
    have x5 : X.cell? ⟨wr.heap.size, 5, none⟩ = some (.slice a2 x.body.length c2) := by rw [hX]; simp
    have hgX : wr.heap.size < X.heap.size := by rw [hX]; simp
    rw [← hX]
    clear hX
    have hBX : Below w.heap.size w X := hB.trans (HBX.out.mono hBz)
    have hBXz := hBX.size
    have HRW : Hid (∀ b, (Value.slice sa k sc).ownBlock = some b → w.heap.size ≤ b ∧ b < X.heap.size) := Lib.hid fun b e => by
     obtain ⟨h1, h2⟩ := World.ownsRow.lt Q3.out _ e
     exact ⟨h1, by omega⟩
    have CP : Hid (∀ W, Below X.heap.size X W → Calls Tryz.prog 14 #[.slice a1 x.word.length c1] W fun e W' => ∃ a c, e = .returned (.slice a x.word.length c) ∧ (∀ W2, Below W'.heap.size W' W2 → ∀ g, (∀ b, g = some b → w.heap.size ≤ b ∧ b < X.heap.size) → PtsIn (onlyW W2 (freshB w.heap.size [] g)) W2.heap.size d x.word (.slice a x.word.length c)) ∧ Below X.heap.size X W' ∧ Below W.heap.size W W') :=
     Lib.hid fun W hW => (HWC.out W _ _ ((HP.out.below (hBX.trans (hW.mono hBX.size))).mono (Nat.le_trans hBX.size hW.size))).mono fun e W' ⟨a, c, h1, h2, h3⟩ =>
      ⟨a, c, h1, fun W2 hb g hg => later_pts h2 W2 hb _ [] g (Nat.le_trans hBX.size hW.size) (by simp) fun b e => Nat.lt_of_lt_of_le (hg b e).2 hW.size, hW.trans (h3.mono hW.size), h3⟩
    have CN : Hid (∀ W, Below X.heap.size X W → Calls Tryz.prog 9 #[.slice a2 x.body.length c2] W fun e W' => ∃ a c, e = .returned (.slice a x.body.length c) ∧ (∀ W2, Below W'.heap.size W' W2 → ∀ g, (∀ b, g = some b → w.heap.size ≤ b ∧ b < X.heap.size) → NdsIn (onlyW W2 (freshB w.heap.size [] g)) W2.heap.size d x.body (.slice a x.body.length c)) ∧ Below X.heap.size X W' ∧ Below W.heap.size W W') :=
     Lib.hid fun W hW => (HNC.out W _ _ ((HS.out.below (hBX.trans (hW.mono hBX.size))).mono (Nat.le_trans hBX.size hW.size))).mono fun e W' ⟨a, c, h1, h2, h3⟩ =>
      ⟨a, c, h1, fun W2 hb g hg => later_nds h2 W2 hb _ [] g (Nat.le_trans hBX.size hW.size) (by simp) fun b e => Nat.lt_of_lt_of_le (hg b e).2 hW.size, hW.trans (h3.mono hW.size), h3⟩
    clear e0 e1 e2 e3 e4 e5 hi
    go_region_held3 (fun w' => w'.cell? ⟨wr.heap.size, 0, none⟩ = some (.int .i64 x.kind) ∧ w'.cell? ⟨wr.heap.size, 1, none⟩ = some (.bool x.quoted) ∧ w'.cell? ⟨wr.heap.size, 2, none⟩ = some (.string x.text) ∧ w'.cell? ⟨wr.heap.size, 3, none⟩ = some (.string x.op) ∧ w'.cell? ⟨wr.heap.size, 4, none⟩ = some (.slice a1 x.word.length c1) ∧ w'.cell? ⟨wr.heap.size, 5, none⟩ = some (.slice a2 x.body.length c2)) (first | exact ⟨f0, f1, f2, f3, f4, f5⟩ | exact ⟨d0, d1, d2, d3, d4, d5⟩ | go_keep)
     (first
      | (go_at_call 14; with_reducible refine (CP.out _ bg).mono ?_; rintro e w1 ⟨av, cv, rfl, hq1, hb1, hc1⟩;
         have hr1 : Below wr.heap.size wr w1 := HBX.out.trans (hb1.mono HBX.out.size); have hs1 := hr1.size; have hz1 := hc1.size; (try simp only [World.size_alloc, World.size_setCell, World.size_drew, size_drewN] at hz1); have HQ1 := Lib.hid hq1; clear hq1; have d0 := (hb1.cell hgX).trans x0; have d1 := (hb1.cell hgX).trans x1; have d2 := (hb1.cell hgX).trans x2; have d3 := (hb1.cell hgX).trans x3; have d4 := (hb1.cell hgX).trans x4; have d5 := (hb1.cell hgX).trans x5)
      | (go_at_call 9; with_reducible refine (CN.out _ bg).mono ?_; rintro e w2 ⟨ab, cb, rfl, hq2, hb2, hc2⟩;
         have hr2 : Below wr.heap.size wr w2 := HBX.out.trans (hb2.mono HBX.out.size); have hs2 := hr2.size; have hz2 := hc2.size; (try simp only [World.size_alloc, World.size_setCell, World.size_drew, size_drewN] at hz2); have HQ2 := Lib.hid hq2; clear hq2; have d0 := (hb2.cell hgX).trans x0; have d1 := (hb2.cell hgX).trans x1; have d2 := (hb2.cell hgX).trans x2; have d3 := (hb2.cell hgX).trans x3; have d4 := (hb2.cell hgX).trans x4; have d5 := (hb2.cell hgX).trans x5)
      | (refine step_append_sl rfl _ _ 41 rfl w.heap.size 72 Tryz.underlying41 infoP14 rfl (by decide) (v := .slice sa k sc) (n := k) (xs := cs.flatten) rfl (own_below Q3.out bg) (m := 1) (news := [.int .i64 x.kind, .bool x.quoted, .string x.text, .string x.op, .slice av x.word.length cv, .slice ab x.body.length cb]) rfl (sl_made_at _ #[.int .i64 x.kind, .bool x.quoted, .string x.text, .string x.op, .slice av x.word.length cv, .slice ab x.body.length cb] _ 1 6 rfl (by unfold maxLen; omega) (by simp)) (by omega) (by intro u hu; simp at hu; rcases hu with rfl | rfl | rfl | rfl | rfl | rfl <;> rfl) (by omega) (by simp; omega) ?_; intro g cap1 w5 hown hgrow hlie hglt
         have HB5 := Lib.hid (Below.grown (B := w.heap.size) (a := w) (hB.trans (Below.mono (B := wr.heap.size) bg hBz)) hgrow (by simp; omega) (fun k e => (HRW.out k e).1))
         have HP5 := Lib.hid (Copied.push (F := fun w B => PtC w B d) (l := l) (x := x) hgrow hlie hown (fun h x c => h.ptc) (w := wr) bg Q1.out Q2.out Q4.out HX.out rfl ⟨HXZ.out, HXZ2.out, _, _, rfl, HQ1.out _ bg _ HRW.out, HQ2.out _ bg _ HRW.out⟩)
         have hne5 : some wr.heap.size ≠ (Value.slice sa k sc).ownBlock := fun e => by have := World.ownsRow.lt Q3.out _ e.symm; omega
         have hbk5 := hgrow.block wr.heap.size (by simp; omega) hne5
         have f0 := (World.cell?_of_block (a := ⟨wr.heap.size, 0, none⟩) hbk5).trans ((Below.cell (B := X.heap.size) (p := ⟨wr.heap.size, 0, none⟩) bg hgX).trans x0)
         have f1 := (World.cell?_of_block (a := ⟨wr.heap.size, 1, none⟩) hbk5).trans ((Below.cell (B := X.heap.size) (p := ⟨wr.heap.size, 1, none⟩) bg hgX).trans x1)
         have f2 := (World.cell?_of_block (a := ⟨wr.heap.size, 2, none⟩) hbk5).trans ((Below.cell (B := X.heap.size) (p := ⟨wr.heap.size, 2, none⟩) bg hgX).trans x2)
         have f3 := (World.cell?_of_block (a := ⟨wr.heap.size, 3, none⟩) hbk5).trans ((Below.cell (B := X.heap.size) (p := ⟨wr.heap.size, 3, none⟩) bg hgX).trans x3)
         have f4 := (World.cell?_of_block (a := ⟨wr.heap.size, 4, none⟩) hbk5).trans ((Below.cell (B := X.heap.size) (p := ⟨wr.heap.size, 4, none⟩) bg hgX).trans x4)
         have f5 := (World.cell?_of_block (a := ⟨wr.heap.size, 5, none⟩) hbk5).trans ((Below.cell (B := X.heap.size) (p := ⟨wr.heap.size, 5, none⟩) bg hgX).trans x5)
         clear hown hgrow hlie hglt hbk5
))
    all_goals
     go_wp2_with fail
     go_roundw
     case rel => exact ⟨k + 1, by omega, by go_num, HP5.out, HB5.out⟩
     case measure => simp [intOf]; omega
  · obtain rfl : k = n := by omega
    have HCP := Lib.hid hcp
    obtain ⟨cs, q1, q2, q3, q4⟩ := hcp
    obtain ⟨sa, sc, rfl⟩ := own_shape q3
    clear q1 q2 q3 q4
    go_wp2_with fail
    go_ret
    exact ⟨_, _, rfl, Copied.done (F := fun w B => PtC w B d) (by rw [HN.out]; exact HCP.out) (by rw [HN.out]; exact hz) (fun h x c => h.ptc) (by simp), hB⟩
end Go.Proofs.YtnackmnoldkihaaGreatDoor
/-
  The walks of the copies of words and of commands.
-/
namespace Go.Proofs.YtnackmnoldkihaaGreatDoor
open Go.RowKit

def WordsC (d : Nat) : Prop := ∀ (W : World) (l : List (List Pt)) (v : Value), WdsIn W W.heap.size d l v →
 Calls Tryz.prog 52 #[v] W fun e W' => ∃ a c, e = .returned (.slice a l.length c) ∧ WdsIn (onlyW W' (freshB W.heap.size [] none)) W'.heap.size d l (.slice a l.length c) ∧ Below W.heap.size W W'
def NodeC (d : Nat) : Prop := ∀ (W : World) (x : Nd) (c : List Value), NdC W W.heap.size d x c →
 Calls Tryz.prog 38 #[.agg c.toArray] W fun e W' => ∃ a1 c1 a2 c2 a3 c3 a4 c4 a5 c5, e = .returned (.agg #[.int .i64 x.kind, .string x.name, .slice a1 x.assigns.length c1, .slice a2 x.words.length c2, .slice a3 x.redirs.length c3, .slice a4 x.lists.length c4, .slice a5 x.arms.length c5]) ∧
  NdC (onlyW W' (freshB W.heap.size [] none)) W'.heap.size d x [.int .i64 x.kind, .string x.name, .slice a1 x.assigns.length c1, .slice a2 x.words.length c2, .slice a3 x.redirs.length c3, .slice a4 x.lists.length c4, .slice a5 x.arms.length c5] ∧ Below W.heap.size W W'
theorem infoPs14 : (Tryz.prog.info? 41).map (fun i => (i.zero, i.size, i.bytes)) = some (some (.slice none 0 0), 1, 24) := by kernel_rfl
theorem infoN14 : (Tryz.prog.info? 64).map (fun i => (i.zero, i.size, i.bytes)) = some (some (.agg #[.int .i64 0, .string ByteArray.empty, .slice none 0 0, .slice none 0 0, .slice none 0 0, .slice none 0 0, .slice none 0 0]), 7, 144) := by kernel_rfl

set_option maxHeartbeats 2000000 in
set_option maxRecDepth 100000 in
theorem words_copy (d : Nat) (hWC : WordC d) : WordsC d := by
 intro w l v hl
 obtain ⟨a, cap, rfl, hz⟩ := hl.len
 obtain ⟨n, hn⟩ : ∃ n, l.length = n := ⟨_, rfl⟩
 rw [hn] at hl hz ⊢
 have HL := Lib.hid hl
 have HN := Lib.hid hn
 have HWC := Lib.hid hWC
 clear hl hn hWC
 go_enter Tryz.func52, Tryz.ntmps52
 go_wp2_with fail
 go_loopw [3, 8] (fun t i W => ∃ k : Nat, k ≤ n ∧ i = .int .i64 k ∧ Copied W w.heap.size [] 41 1 (fun w B (y : List Pt) c => ∃ v, c = [v] ∧ PtsIn w B d y v) l k t ∧ Below w.heap.size w W) (fun _ i _ => n - (intOf i).toNat)
 case atStart => exact ⟨0, Nat.zero_le _, rfl, Copied.start _ _ _ _ _ _ _, Below.refl _ _⟩
 case round =>
  obtain ⟨k, hk, rfl, hcp, hB⟩ := hrel
  have hBz := hB.size
  by_cases hlt : k < n
  · obtain ⟨y, hy⟩ : ∃ y, l[k]? = .some y := ⟨_, List.getElem?_eq_getElem (by rw [HN.out]; exact hlt)⟩
    have HX := Lib.hid hy
    obtain ⟨b, o, c, hi, hbB, hce, ⟨yv, rfl, hyp⟩, _⟩ := HL.out.at 34 29 Tryz.underlying34 (by kernel_rfl) hy
    obtain ⟨a6, c6, rfl, _⟩ := hyp.shape
    obtain ⟨cs, q1, q2, q3, q4⟩ := hcp
    obtain ⟨sa, sc, rfl⟩ := own_shape q3
    have Q1 := Lib.hid q1
    have Q2 := Lib.hid q2
    have Q3 := Lib.hid q3
    have Q4 := Lib.hid q4
    have HRW : Hid (∀ b, (Value.slice sa k sc).ownBlock = some b → w.heap.size ≤ b ∧ b < wr.heap.size) := Lib.hid fun b e => World.ownsRow.lt Q3.out _ e
    have e0 := (hB.cell hbB).trans (hce 0 _ rfl)
    have hbB' := Nat.lt_of_lt_of_le hbB hB.size
    rw [Nat.add_zero] at e0
    have CW := Lib.hid (HWC.out wr y _ ((hyp.below hB).mono hBz))
    clear hy hce hyp q1 q2 q3 q4
    go_wp2_with fail
    refine CW.out.mono ?_
    rintro e w1 ⟨a7, c7, rfl, hp1, hb1⟩
    have HP1 := Lib.hid (later_pts hp1)
    have hz1 := hb1.size
    clear hp1
    go_wp2_with (at_builtin; go_must ((refine append_sl rfl _ _ 59 rfl w.heap.size 41 Tryz.underlying59 infoPs14 rfl (by decide) (v := .slice sa k sc) (n := k) (xs := cs.flatten) rfl (own_below Q3.out bg) (m := 1) (news := [.slice a7 y.length c7]) rfl (sl_made_at _ #[.slice a7 y.length c7] _ 1 1 rfl (by unfold maxLen; omega) (by simp)) (by omega) (by intro u hu; simp at hu; subst hu; rfl) (by omega) (by simp; omega) ?_); intro g1 cap1 w5 hown hgrow hlie hglt; have HB5 := Lib.hid (Below.grown (B := w.heap.size) (a := w) (hB.trans (Below.mono (B := wr.heap.size) bg hBz)) hgrow (by simp; omega) (fun k e => (HRW.out k e).1)); have HP5 := Lib.hid (Copied.push (F := fun w B (y : List Pt) c => ∃ v, c = [v] ∧ PtsIn w B d y v) (l := l) (x := y) hgrow hlie hown (fun h x c ⟨v, e, hv⟩ => ⟨v, e, h.pts hv⟩) (w := wr) bg Q1.out Q2.out Q4.out HX.out rfl ⟨_, rfl, HP1.out _ bg _ _ _ hBz (by simp) fun b e => (HRW.out b e).2⟩); clear hown hgrow hlie hglt))
    go_roundw
    case rel => exact ⟨k + 1, by omega, by go_num, HP5.out, HB5.out⟩
    case measure => simp [intOf]; omega
  · obtain rfl : k = n := by omega
    have HCP := Lib.hid hcp
    obtain ⟨cs, q1, q2, q3, q4⟩ := hcp
    obtain ⟨sa, sc, rfl⟩ := own_shape q3
    clear q1 q2 q3 q4
    go_wp2_with fail
    go_ret
    exact ⟨_, _, rfl, Copied.done (F := fun w B (y : List Pt) c => ∃ v, c = [v] ∧ PtsIn w B d y v) (by rw [HN.out]; exact HCP.out) (by rw [HN.out]; exact hz) (fun h x c ⟨v, e, hv⟩ => ⟨v, e, h.pts hv⟩) (by simp), hB⟩

set_option maxHeartbeats 2000000 in
set_option maxRecDepth 100000 in
theorem nodes_copy (d : Nat) (hNC : NodeC d) (l : List Nd) (v : Value) (w : World) (hl : SlOf w w.heap.size 7 (NdC w w.heap.size d) l v) :
 Calls Tryz.prog 9 #[v] w fun e W' => ∃ a c, e = .returned (.slice a l.length c) ∧ SlOf (onlyW W' (freshB w.heap.size [] none)) W'.heap.size 7 (NdC (onlyW W' (freshB w.heap.size [] none)) W'.heap.size d) l (.slice a l.length c) ∧ Below w.heap.size w W' := by
 obtain ⟨a, cap, rfl, hz⟩ := hl.len
 obtain ⟨n, hn⟩ : ∃ n, l.length = n := ⟨_, rfl⟩
 rw [hn] at hl hz ⊢
 have HL := Lib.hid hl
 have HN := Lib.hid hn
 have HNC := Lib.hid hNC
 clear hl hn hNC
 go_enter Tryz.func9, Tryz.ntmps9
 go_wp2_with fail
 go_loopw [3, 8] (fun t i W => ∃ k : Nat, k ≤ n ∧ i = .int .i64 k ∧ Copied W w.heap.size [] 64 7 (fun w B => NdC w B d) l k t ∧ Below w.heap.size w W) (fun _ i _ => n - (intOf i).toNat)
 case atStart => exact ⟨0, Nat.zero_le _, rfl, Copied.start _ _ _ _ _ _ _, Below.refl _ _⟩
 case round =>
  obtain ⟨k, hk, rfl, hcp, hB⟩ := hrel
  have hBz := hB.size
  by_cases hlt : k < n
  · obtain ⟨x, hx⟩ : ∃ y, l[k]? = .some y := ⟨_, List.getElem?_eq_getElem (by rw [HN.out]; exact hlt)⟩
    have HX := Lib.hid hx
    obtain ⟨b, o, c, hi, hbB, hce, hC, _⟩ := HL.out.at 22 38 Tryz.underlying22 (by kernel_rfl) hx
    obtain ⟨a1, c1, a2, c2, a3, c3, a4, c4, a5, c5, rfl, _⟩ := hC.open
    obtain ⟨cs, q1, q2, q3, q4⟩ := hcp
    obtain ⟨sa, sc, rfl⟩ := own_shape q3
    have Q1 := Lib.hid q1
    have Q2 := Lib.hid q2
    have Q3 := Lib.hid q3
    have Q4 := Lib.hid q4
    have HRW : Hid (∀ b, (Value.slice sa k sc).ownBlock = some b → w.heap.size ≤ b ∧ b < wr.heap.size) := Lib.hid fun b e => World.ownsRow.lt Q3.out _ e
    have e0 := (hB.cell hbB).trans (hce 0 _ rfl)
    have e1 := (hB.cell hbB).trans (hce 1 _ rfl)
    have e2 := (hB.cell hbB).trans (hce 2 _ rfl)
    have e3 := (hB.cell hbB).trans (hce 3 _ rfl)
    have e4 := (hB.cell hbB).trans (hce 4 _ rfl)
    have e5 := (hB.cell hbB).trans (hce 5 _ rfl)
    have e6 := (hB.cell hbB).trans (hce 6 _ rfl)
    have hbB' := Nat.lt_of_lt_of_le hbB hB.size
    rw [Nat.add_zero] at e0
    have CW : Hid (∀ W, Below w.heap.size w W → _) := Lib.hid fun W (hW : Below w.heap.size w W) => HNC.out W x _ (hC.later hW)
    clear hx hce hC q1 q2 q3 q4
    go_wp2_with fail
    refine (CW.out _ bg).mono ?_
    rintro e w1 ⟨a1', c1', a2', c2', a3', c3', a4', c4', a5', c5', rfl, hp1, hb1⟩
    have HP1 := Lib.hid (later_ndc hp1)
    have hz1 := hb1.size
    simp only [World.size_alloc, World.size_setCell, World.size_drew, size_drewN] at hz1
    have hr1 : Below wr.heap.size wr w1 := (show Below wr.heap.size wr (wr.alloc _) from bg).trans (hb1.mono (by simp))
    clear hp1 e0 e1 e2 e3 e4 e5 e6
    go_wp2_with (at_builtin; go_must ((refine append_sl rfl _ _ 25 rfl w.heap.size 64 Tryz.underlying25 infoN14 rfl (by decide) (v := .slice sa k sc) (n := k) (xs := cs.flatten) rfl (own_below Q3.out bg) (m := 1) (news := [.int .i64 x.kind, .string x.name, .slice a1' x.assigns.length c1', .slice a2' x.words.length c2', .slice a3' x.redirs.length c3', .slice a4' x.lists.length c4', .slice a5' x.arms.length c5']) rfl (sl_made_at _ #[.int .i64 x.kind, .string x.name, .slice a1' x.assigns.length c1', .slice a2' x.words.length c2', .slice a3' x.redirs.length c3', .slice a4' x.lists.length c4', .slice a5' x.arms.length c5'] _ 1 7 rfl (by unfold maxLen; omega) (by simp)) (by omega) (by intro u hu; simp at hu; rcases hu with rfl | rfl | rfl | rfl | rfl | rfl | rfl <;> rfl) (by omega) (by simp; omega) ?_); intro g1 cap1 w5 hown hgrow hlie hglt; have HB5 := Lib.hid (Below.grown (B := w.heap.size) (a := w) (hB.trans (Below.mono (B := wr.heap.size) bg hBz)) hgrow (by simp; omega) (fun k e => (HRW.out k e).1)); have HP5 := Lib.hid (Copied.push (F := fun w B => NdC w B d) (l := l) (x := x) hgrow hlie hown (fun h x c => h.ndc) (w := wr) bg Q1.out Q2.out Q4.out HX.out rfl (HP1.out _ bg _ _ _ (by simp; omega) (by simp) fun b e => by have := (HRW.out b e).2; simp; omega)); clear hown hgrow hlie hglt))
    go_roundw
    case rel => exact ⟨k + 1, by omega, by go_num, HP5.out, HB5.out⟩
    case measure => simp [intOf]; omega
  · obtain rfl : k = n := by omega
    have HCP := Lib.hid hcp
    obtain ⟨cs, q1, q2, q3, q4⟩ := hcp
    obtain ⟨sa, sc, rfl⟩ := own_shape q3
    clear q1 q2 q3 q4
    go_wp2_with fail
    go_ret
    exact ⟨_, _, rfl, Copied.done (F := fun w B => NdC w B d) (by rw [HN.out]; exact HCP.out) (by rw [HN.out]; exact hz) (fun h x c => h.ndc) (by simp), hB⟩
end Go.Proofs.YtnackmnoldkihaaGreatDoor
namespace Go.Proofs.YtnackmnoldkihaaGreatDoor
open Go.RowKit

def RedirC (d : Nat) : Prop := ∀ (W : World) (r : Rd) (c : List Value), RdC W W.heap.size d r c →
 Calls Tryz.prog 53 #[.agg c.toArray] W fun e W' => ∃ a c', e = .returned (.agg #[.int .i64 r.fd, .string r.op, .string r.tag, .slice a r.word.length c']) ∧
  RdC (onlyW W' (freshB W.heap.size [] none)) W'.heap.size d r [.int .i64 r.fd, .string r.op, .string r.tag, .slice a r.word.length c'] ∧ Below W.heap.size W W'

set_option maxHeartbeats 2000000 in
set_option maxRecDepth 100000 in
theorem redir_copy (d : Nat) (hWC : WordC d) : RedirC d := by
 intro w r c hc
 obtain ⟨h1, h2, h3, yv, rfl, hp⟩ := hc
 obtain ⟨a1, c1, rfl, _⟩ := hp.shape
 have HP := Lib.hid hp
 have H1 := Lib.hid h1
 have H2 := Lib.hid h2
 have H3 := Lib.hid h3
 obtain ⟨X, hX⟩ : ∃ X, X = (w.alloc (.cells #[.int .i64 r.fd, .string r.op, .string r.tag, .slice a1 r.word.length c1] 31)).alloc (.cells #[.int .i64 0, .string ⟨#[]⟩, .string ⟨#[]⟩, .slice none 0 0] 100) := ⟨_, rfl⟩
 have hBX : Below w.heap.size w X := by rw [hX]; exact bg
 have hzX : X.heap.size = w.heap.size + 1 + 1 := by rw [hX]; simp
 have x0 : X.cell? ⟨w.heap.size, 0, none⟩ = some (.int .i64 r.fd) := by rw [hX]; simp
 have x1 : X.cell? ⟨w.heap.size, 1, none⟩ = some (.string r.op) := by rw [hX]; simp
 have x2 : X.cell? ⟨w.heap.size, 2, none⟩ = some (.string r.tag) := by rw [hX]; simp
 have x3 : X.cell? ⟨w.heap.size, 3, none⟩ = some (.slice a1 r.word.length c1) := by rw [hX]; simp
 have HY : Hid (Blk X (w.heap.size + 1) 100 #[.int .i64 0, .string ⟨#[]⟩, .string ⟨#[]⟩, .slice none 0 0]) := Lib.hid (by rw [hX]; exact Blk.at (by simp))
 have HX := Lib.hid hX
 have hgX : w.heap.size < X.heap.size := by omega
 have CW : Hid (∀ W, Below X.heap.size X W → Calls Tryz.prog 14 #[.slice a1 r.word.length c1] W fun e W' => ∃ a c, e = .returned (.slice a r.word.length c) ∧ (∀ W2 : World, W'.heap.size ≤ W2.heap.size → (∀ b o, X.heap.size ≤ b → W2.cell? ⟨b, o, none⟩ = W'.cell? ⟨b, o, none⟩) → PtsIn (onlyW W2 (freshB w.heap.size [] none)) W2.heap.size d r.word (.slice a r.word.length c)) ∧ Below X.heap.size X W' ∧ Below W.heap.size W W') :=
  Lib.hid fun W hW => (hWC W _ _ ((HP.out.below (hBX.trans (hW.mono hBX.size))).mono (Nat.le_trans hBX.size hW.size))).mono fun e W' ⟨a, c, h1, h2, h3⟩ => ⟨a, c, h1, fun W2 hz hk => (Kept.pts ⟨hz, fun b k1 k2 k3 k4 => ⟨⟨by have := hW.size; omega, by simp, by simp⟩, fun o => hk b o (by have := hW.size; omega)⟩⟩ h2), hW.trans (h3.mono hW.size), h3⟩
 clear hp hWC h1 h2 h3 hX
 go_enter Tryz.func53, Tryz.ntmps53
 go_upto_region 1 with fail
 rw [← HX.out]
 go_region_held3 (fun w' => w'.cell? ⟨w.heap.size, 0, none⟩ = some (.int .i64 r.fd) ∧ w'.cell? ⟨w.heap.size, 1, none⟩ = some (.string r.op) ∧ w'.cell? ⟨w.heap.size, 2, none⟩ = some (.string r.tag) ∧ w'.cell? ⟨w.heap.size, 3, none⟩ = some (.slice a1 r.word.length c1)) (go_keep)
  ((go_at_call 14; with_reducible refine (CW.out _ bg).mono ?_; rintro e w1 ⟨a2, c2, rfl, hp1, hb1, hc1⟩; have HP1 := Lib.hid hp1; clear hp1; have d0 := (hb1.cell hgX).trans x0; have d1 := (hb1.cell hgX).trans x1; have d2 := (hb1.cell hgX).trans x2; have d3 := (hb1.cell hgX).trans x3; have HYY := Lib.hid (HY.out.below hb1 (by omega)); have k0 := HYY.out.cell 0; have k1 := HYY.out.cell 1; have k2 := HYY.out.cell 2; have k3 := HYY.out.cell 3; have kl := HYY.out.lt; have kf0 := HYY.out.free 0; have kf1 := HYY.out.free 1; have kf2 := HYY.out.free 2; have kf3 := HYY.out.free 3; simp at k0 k1 k2 k3))
 have HBW : Hid (Below w.heap.size w w1) := Lib.hid (hBX.trans (hb1.mono hBX.size))
 clear hb1 hc1 d0 d1 d2 d3 x0 x1 x2 x3 k0 k1 k2 k3 kf0 kf1 kf2 kf3
 obtain ⟨V, hV⟩ : ∃ V, V = (((w1.setCell ⟨w.heap.size + 1, 0, none⟩ (.int .i64 r.fd)).setCell ⟨w.heap.size + 1, 1, none⟩ (.string r.op)).setCell ⟨w.heap.size + 1, 2, none⟩ (.string r.tag)).setCell ⟨w.heap.size + 1, 3, none⟩ (.slice a2 r.word.length c2) := ⟨_, rfl⟩
 have HKV : Hid (Blk V (w.heap.size + 1) 100 #[.int .i64 r.fd, .string r.op, .string r.tag, .slice a2 r.word.length c2]) := Lib.hid (by rw [hV]; exact (((HYY.out.put 0 _).put 1 _).put 2 _).put 3 _)
 have HPV : Hid (PtsIn (onlyW V (freshB w.heap.size [] none)) V.heap.size d r.word (.slice a2 r.word.length c2)) := Lib.hid (HP1.out V (by rw [hV]; simp) fun b o hb => by
  rw [hV]
  repeat rw [World.cell?_setCell_other _ _ _ _ (fun e => by injection e with e _; omega)])
 have HBV : Hid (Below w.heap.size w V) := Lib.hid (by rw [hV]; exact (((HBW.out.setCell (by simp) _).setCell (by simp) _).setCell (by simp) _).setCell (by simp) _)
 rw [← hV]
 clear hV
 have q0 := HKV.out.cell 0
 have q1 := HKV.out.cell 1
 have q2 := HKV.out.cell 2
 have q3 := HKV.out.cell 3
 have q4 := HKV.out.lt
 simp at q0 q1 q2 q3
 go_wp2_with fail
 refine bodyPost_ret (v := .agg #[.int .i64 r.fd, .string r.op, .string r.tag, .slice a2 r.word.length c2]) (by simp [results, Tryz.results53, go_sem, q0, q1, q2, q3]) rfl ?_
 exact ⟨_, _, rfl, ⟨H1.out, H2.out, H3.out, _, rfl, HPV.out⟩, HBV.out⟩
end Go.Proofs.YtnackmnoldkihaaGreatDoor
