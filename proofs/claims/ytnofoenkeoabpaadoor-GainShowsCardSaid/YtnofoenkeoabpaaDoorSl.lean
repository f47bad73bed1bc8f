/-
  Slices whose elements take any number of cells: what they hold; an element's place; cutting; appending to a slice of the call's own.
-/
import Derived.Test.YtnofoenkeoabpaaDoorLib
import Derived.Laws.AppendOwnNone
import Derived.OneCell
import Derived.OwnWalk
import Derived.Deep.AppendLies
namespace Go.Proofs.YtnofoenkeoabpaaDoor
open Go.RowKit

/-- A frame whose unknown slots are one function's values. -/
theorem fr_intro {a : Act} {F : (Nat → Value) → Act} (h : a = F (fun i => a.tmps.getD i undef)) : ∃ u, a = F u := ⟨_, h⟩

/-- v is a slice of n elements, of size cells each, below block B; xs are all cells. -/
def Sl (w : World) (B size : Nat) (v : Value) (n : Nat) (xs : List Value) : Prop :=
  xs.length = n * size ∧ ∃ a cap, v = .slice a n cap ∧ n ≤ cap ∧ cap ≤ maxLen ∧ (n = 0 ∨ ∃ b off, a = some ⟨b, off, none⟩ ∧ b < B ∧ ∀ j, j < n * size → w.cell? ⟨b, off + j, none⟩ = xs[j]?)

section
variable {w w' : World} {B B' size n : Nat} {v : Value} {xs : List Value}
theorem Sl.nil (w : World) (B size : Nat) : Sl w B size (.slice none 0 0) 0 [] := ⟨by simp, none, 0, rfl, Nat.le_refl _, Nat.zero_le _, .inl rfl⟩
theorem Sl.keep (h : Sl w B size v n xs) (hc : ∀ b o, b < B → w'.cell? ⟨b, o, none⟩ = w.cell? ⟨b, o, none⟩) : Sl w' B size v n xs := by
  obtain ⟨h1, a, cap, h2, h3, h4, h5⟩ := h
  refine ⟨h1, a, cap, h2, h3, h4, ?_⟩
  rcases h5 with h5 | ⟨b, off, ha, hb, hx⟩
  · exact .inl h5
  · exact .inr ⟨b, off, ha, hb, fun j hj => by rw [hc _ _ hb]; exact hx j hj⟩
theorem Sl.mono (h : Sl w B size v n xs) (hB : B ≤ B') : Sl w B' size v n xs := by
  obtain ⟨h1, a, cap, h2, h3, h4, h5⟩ := h
  refine ⟨h1, a, cap, h2, h3, h4, ?_⟩
  rcases h5 with h5 | ⟨b, off, ha, hb, hx⟩
  · exact .inl h5
  · exact .inr ⟨b, off, ha, by omega, hx⟩
theorem Sl.below (h : Sl w B size v n xs) (hb : Below B w w') : Sl w' B size v n xs := h.keep fun b o hlt => hb.cell (p := ⟨b, o, none⟩) hlt
theorem Sl.set (h : Sl w B size v n xs) {p : Addr} (hp : B ≤ p.block) (u : Value) : Sl (w.setCell p u) B size v n xs :=
  h.keep fun b o hlt => World.cell?_setCell_other w p _ u (fun e => by subst e; simp at hp; omega)
theorem Sl.grown (h : Sl w B size v n xs) {row : Option Nat} (hg : w.grownBy w' row) (hB : B ≤ w.heap.size) (hr : ∀ g, row = some g → B ≤ g) : Sl w' B size v n xs :=
  h.keep fun b o hlt => World.cell?_of_block (hg.block b (by omega) (fun e => by have := hr _ e.symm; omega))
theorem Sl.len (h : Sl w B size v n xs) : n ≤ maxLen := by obtain ⟨_, _, _, _, h3, h4, _⟩ := h; omega
theorem Sl.of_own {base : Nat} {e : TypeId} (h : w.ownsRow base e size v n xs) : Sl w w.heap.size size v n xs := by
  obtain ⟨h1, h2⟩ := h
  refine ⟨h1, ?_⟩
  rcases h2 with ⟨rfl, h3⟩ | ⟨g, cap, cur, rfl, hB, hg, hn, hc, hs, hx⟩
  · exact ⟨none, 0, by rw [h3], by omega, Nat.zero_le _, .inl h3⟩
  · refine ⟨some ⟨g, 0, none⟩, cap, rfl, hn, hc, .inr ⟨g, 0, rfl, (Array.getElem?_eq_some_iff.1 hg).1, fun j hj => ?_⟩⟩
    rw [← hx, List.getElem?_take_of_lt hj, Nat.zero_add]
    simp [World.cell?, hg]

/-- What a walk wants: its form; where an element lies; its cells. -/
theorem Sl.open {P : Program} (h : Sl w B size v n xs) (T E : Nat) (hT : P.underlying T = some (.slice E)) (hs : (P.info? E).map (·.size) = some size) :
    ∃ a cap b off, v = .slice a n cap ∧ n ≤ cap ∧ n ≤ maxLen ∧ (∀ (k : Nat) (w' : World), k < n → (Instr.indexAt T (.slice a n cap) (.int .i64 (k : Int))).run P w' = .ok (.pointer (some ⟨b, off + k * size, none⟩)) w') ∧ (n = 0 ∨ b < B) ∧
      ∀ j, j < n * size → w.cell? ⟨b, off + j, none⟩ = xs[j]? := by
  obtain ⟨h1, a, cap, rfl, h3, h4, h5⟩ := h
  rcases h5 with h5 | ⟨b, off, rfl, hB, hc⟩
  · subst h5; exact ⟨a, cap, 0, 0, rfl, h3, Nat.zero_le _, fun k _ hk => by omega, .inl rfl, fun j hj => by omega⟩
  · refine ⟨_, cap, b, off, rfl, h3, by omega, fun k w' hk => ?_, .inr hB, hc⟩
    have he : P.elem T = E := by simp [Program.elem, hT]
    rw [run_indexAt_slice _ _ _ _ _ _ _ (by rw [he]; exact hT), if_pos ⟨by omega, by omega⟩, he]
    obtain ⟨i, hi, hi1⟩ := Option.map_eq_some_iff.1 hs
    simp [sizeOf, typeInfo, hi, hi1, Result.andThen, addr_add]

/-- v[k:] -/
theorem Sl.cut {P : Program} (h : Sl w B size v n xs) (T E : Nat) (hT : P.underlying T = some (.slice E)) (hs : (P.info? E).map (·.size) = some size) {k : Nat} (hk : k ≤ n) :
    ∃ v', (∀ (w' : World), (Instr.slice T v (some (.int .i64 (k : Int))) none none).run P w' = .ok v' w') ∧ Sl w B size v' (n - k) (xs.drop (k * size)) := by
  obtain ⟨h1, a, cap, rfl, h3, h4, h5⟩ := h
  have he : P.elem T = E := by simp [Program.elem, hT]
  obtain ⟨i, hi, hi1⟩ := Option.map_eq_some_iff.1 hs
  refine ⟨sliced a k n cap size, fun w' => ?_, ?_⟩
  · rw [run_slice_l w' T a n cap (by rw [he]; exact hT) .i64 k (by omega) (by omega), he]
    simp [sizeOf, typeInfo, hi, hi1, Result.andThen]
  · refine ⟨by rw [List.length_drop, h1, Nat.sub_mul], _, _, rfl, by omega, by omega, ?_⟩
    rcases h5 with h5 | ⟨b, off, rfl, hB, hc⟩
    · exact .inl (by omega)
    · by_cases e : n = k
      · exact .inl (by omega)
      · refine .inr ⟨b, off + k * size, ?_, hB, fun j hj => ?_⟩
        · rw [if_neg (by omega), Option.map_some, addr_add]
        · rw [Nat.add_assoc, hc (k * size + j) (by rw [Nat.sub_mul] at hj; omega), List.getElem?_drop]

/-- The cells of an element. -/
theorem flat_get {α : Type} (f : α → List Value) (size : Nat) (hf : ∀ x, (f x).length = size) : ∀ (l : List α) (k : Nat) (x : α), l[k]? = some x → ∀ j, j < size → (l.flatMap f)[k * size + j]? = (f x)[j]?
  | [], k, x, h, _, _ => by simp at h
  | y :: l, 0, x, h, j, hj => by
    simp at h; subst h
    rw [List.flatMap_cons, Nat.zero_mul, Nat.zero_add, List.getElem?_append_left (by rw [hf]; exact hj)]
  | y :: l, k + 1, x, h, j, hj => by
    rw [List.flatMap_cons, List.getElem?_append_right (by rw [hf, Nat.succ_mul]; omega), hf, show (k + 1) * size + j - size = k * size + j by rw [Nat.succ_mul]; omega]
    exact flat_get f size hf l k x (by simpa using h) j hj
theorem flat_len {α : Type} (f : α → List Value) (size : Nat) (hf : ∀ x, (f x).length = size) : ∀ (l : List α), (l.flatMap f).length = l.length * size
  | [] => by simp
  | y :: l => by rw [List.flatMap_cons, List.length_append, hf, flat_len f size hf l, List.length_cons, Nat.succ_mul]; omega
theorem flat_drop {α : Type} (f : α → List Value) (size : Nat) (hf : ∀ x, (f x).length = size) : ∀ (l : List α) (k : Nat), (l.flatMap f).drop (k * size) = (l.drop k).flatMap f
  | l, 0 => by simp
  | [], k + 1 => by simp
  | y :: l, k + 1 => by
    rw [List.flatMap_cons, List.drop_append, hf, List.drop_of_length_le (by rw [hf, Nat.succ_mul]; omega), List.nil_append, show (k + 1) * size - size = k * size by rw [Nat.succ_mul]; omega, List.drop_succ_cons]
    exact flat_drop f size hf l k

/-- append(s, x...), s the call's own, x whatever lies ready. -/
theorem append_sl {P : Program} {ops : Array Oper} {rest : List Oper} {o : Oper} {a : Act} {Q : Exit → Act → World → Prop} (hgd : o.guard = none) (s x : Operand) (t : TypeId)
    (ho : o.op = .call { callee := .builtin .append, args := #[s, x], argTypes := #[t, t] }) (base : Nat) (e : TypeId) {z : Value} {bytes : Nat} (ht : P.underlying t = some (.slice e))
    (hinfo : (P.info? e).map (fun i => (i.zero, i.size, i.bytes)) = some (some z, size, bytes)) (hzs : z.cells.size = size) (hsz : 0 < size)
    {v : Value} {n : Nat} {xs : List Value} (hs : a.eval s = v) (hown : w.ownsRow base e size v n xs) {vx : Value} {m : Nat} {news : List Value} {B : Nat} (hx : a.eval x = vx) (hsl : Sl w B size vx m news) (hne : 0 < m) (h1 : ∀ u ∈ news, u.oneCell' = true)
    (hlen : (n + m) * (bytes + 1) ≤ 140737488355328) (hbase : base ≤ w.heap.size)
    (h : ∀ g cap w', w'.ownsRow base e size (.slice (some ⟨g, 0, none⟩) (n + m) cap) (n + m) (xs ++ news) → w.grownBy w' v.ownBlock → (v.ownBlock = some g ∨ g = w.heap.size) → g < w'.heap.size → wpList P ops Q rest (a.put o.dst (.slice (some ⟨g, 0, none⟩) (n + m) cap)) w') : wpList P ops Q (o :: rest) a w := by
  obtain ⟨i0, hi, hz0, hz1, hz2⟩ := info_parts hinfo
  obtain ⟨k1, ax, cx, rfl, k3, k4, k5⟩ := hsl
  rcases k5 with k5 | ⟨b, off, rfl, kB, kc⟩
  · omega
  have hb1 : (n + m) * bytes ≤ 140737488355328 := Nat.le_trans (Nat.mul_le_mul_left _ (by omega)) hlen
  have hb2 : n + m ≤ 140737488355328 := Nat.le_trans (Nat.le_mul_of_pos_right _ (by omega)) hlen
  exact wpList_append_lies w hgd s x t ho base e i0 z size bytes ht hi hz0 hz1 hz2 hzs hsz v n xs hs hown ⟨b, off, none⟩ m cx news hx k1 (fun j u hj => by
    have hj' : j < m * size := by rw [← k1]; exact (List.getElem?_eq_some_iff.1 hj).1
    rw [addr_add, kc j hj', hj]) h1 hne (by unfold maxLen; omega) hb1 hbase _ rfl h

/-- The same, its bounds one by one. -/
theorem append_sl2 {P : Program} {ops : Array Oper} {rest : List Oper} {o : Oper} {a : Act} {Q : Exit → Act → World → Prop} (hgd : o.guard = none) (s x : Operand) (t : TypeId)
    (ho : o.op = .call { callee := .builtin .append, args := #[s, x], argTypes := #[t, t] }) (base : Nat) (e : TypeId) {z : Value} {bytes : Nat} (ht : P.underlying t = some (.slice e))
    (hinfo : (P.info? e).map (fun i => (i.zero, i.size, i.bytes)) = some (some z, size, bytes)) (hzs : z.cells.size = size) (hsz : 0 < size)
    {v : Value} {n : Nat} {xs : List Value} (hs : a.eval s = v) (hown : w.ownsRow base e size v n xs) {vx : Value} {m : Nat} {news : List Value} {B : Nat} (hx : a.eval x = vx) (hsl : Sl w B size vx m news) (hne : 0 < m) (h1 : ∀ u ∈ news, u.oneCell' = true)
    (hb1 : (n + m) * bytes ≤ 140737488355328) (hb2 : n + m ≤ maxLen) (hbase : base ≤ w.heap.size)
    (h : ∀ g cap w', w'.ownsRow base e size (.slice (some ⟨g, 0, none⟩) (n + m) cap) (n + m) (xs ++ news) → w.grownBy w' v.ownBlock → (v.ownBlock = some g ∨ g = w.heap.size) → g < w'.heap.size → wpList P ops Q rest (a.put o.dst (.slice (some ⟨g, 0, none⟩) (n + m) cap)) w') : wpList P ops Q (o :: rest) a w := by
  obtain ⟨i0, hi, hz0, hz1, hz2⟩ := info_parts hinfo
  obtain ⟨k1, ax, cx, rfl, k3, k4, k5⟩ := hsl
  rcases k5 with k5 | ⟨b, off, rfl, kB, kc⟩
  · omega
  exact wpList_append_lies w hgd s x t ho base e i0 z size bytes ht hi hz0 hz1 hz2 hzs hsz v n xs hs hown ⟨b, off, none⟩ m cx news hx k1 (fun j u hj => by
    have hj' : j < m * size := by rw [← k1]; exact (List.getElem?_eq_some_iff.1 hj).1
    rw [addr_add, kc j hj', hj]) h1 hne hb2 hb1 hbase _ rfl h
end

/-- A row of the call's own stays where only what is new, or another block, turns. -/
theorem own_below {w w' : World} {base : Nat} {e : TypeId} {size : Nat} {v : Value} {n : Nat} {xs : List Value} (h : w.ownsRow base e size v n xs) (hb : Below w.heap.size w w') : w'.ownsRow base e size v n xs := by
  refine ⟨h.1, ?_⟩
  rcases h.2 with h2 | ⟨g, cap, cur, hv, hB, hg, r⟩
  · exact .inl h2
  · exact .inr ⟨g, cap, cur, hv, hB, by rw [hb.block g (Array.getElem?_eq_some_iff.1 hg).1]; exact hg, r⟩
theorem own_from {w : World} {base base' : Nat} {e : TypeId} {size : Nat} {v : Value} {n : Nat} {xs : List Value} (h : w.ownsRow base e size v n xs) (hB : base' ≤ base) : w.ownsRow base' e size v n xs := by
  refine ⟨h.1, ?_⟩
  rcases h.2 with h2 | ⟨g, cap, cur, hv, hB2, r⟩
  · exact .inl h2
  · exact .inr ⟨g, cap, cur, hv, Nat.le_trans hB hB2, r⟩

/-- A slice that has just been made of elements that are written out. -/
theorem sl_made (w : World) (cs : Array Value) (e : TypeId) (n size : Nat) (hs : cs.size = n * size) (hn : n ≤ maxLen) {B : Nat} (hB : w.heap.size < B) : Sl (w.alloc (.cells cs e)) B size (.slice (some ⟨w.heap.size, 0, none⟩) n n) n cs.toList := by
  refine ⟨by simpa using hs, _, _, rfl, Nat.le_refl _, hn, .inr ⟨w.heap.size, 0, rfl, hB, fun j _ => ?_⟩⟩
  rw [Nat.zero_add]
  unfold World.cell?
  rw [heap_alloc_new]
  simp

theorem sl_made_at (w : World) (cs : Array Value) (e : TypeId) (n size : Nat) (hs : cs.size = n * size) (hn : n ≤ maxLen) {g : Nat} (hg : g = w.heap.size) : Sl (w.alloc (.cells cs e)) (w.alloc (.cells cs e)).heap.size size (.slice (some ⟨g, 0, none⟩) n n) n cs.toList := by
  subst hg
  exact sl_made w cs e n size hs hn (by simp)

/-- Block g is just these cells, none of which is frozen. -/
def Blk (w : World) (g : Nat) (t : TypeId) (cs : Array Value) : Prop := w.heap[g]? = some (.cells cs t (0, 0))
section
variable {w w' : World} {g : Nat} {t : TypeId} {cs : Array Value}
theorem Blk.lt (h : Blk w g t cs) : g < w.heap.size := by
  rcases Nat.lt_or_ge g w.heap.size with hlt | hge
  · exact hlt
  · unfold Blk at h; rw [Array.getElem?_eq_none hge] at h; cases h
theorem Blk.cell (h : Blk w g t cs) (i : Nat) : w.cell? ⟨g, i, none⟩ = cs[i]? := by
  unfold Blk at h
  simp [World.cell?, h]
theorem Blk.free (h : Blk w g t cs) (i : Nat) : w.frozen? ⟨g, i, none⟩ = false := by
  unfold Blk at h
  simp [World.frozen?, h]
theorem Blk.new (w : World) (t : TypeId) (cs : Array Value) : Blk (w.alloc (.cells cs t)) w.heap.size t cs := heap_alloc_new w _
theorem Blk.alloc (h : Blk w g t cs) (o : Obj) : Blk (w.alloc o) g t cs := (Below.heap_alloc w o g h.lt).trans h
theorem Blk.put (h : Blk w g t cs) (i : Nat) (u : Value) : Blk (w.setCell ⟨g, i, none⟩ u) g t (cs.setIfInBounds i u) := by
  unfold Blk at h ⊢
  simp [World.setCell, Array.getElem?_modify, h]
theorem Blk.far (h : Blk w g t cs) {p : Addr} (hp : g ≠ p.block) (u : Value) : Blk (w.setCell p u) g t cs := (Below.heap_setCell w p u g hp).trans h
theorem Blk.below {B : Nat} (h : Blk w g t cs) (hb : Below B w w') (hg : g < B) : Blk w' g t cs := (hb.block g hg).trans h
theorem Blk.grown (h : Blk w g t cs) {row : Option Nat} (hg : w.grownBy w' row) (hr : row ≠ some g) : Blk w' g t cs := (hg.block g h.lt (Ne.symm hr)).trans h
theorem Blk.drewN (h : Blk w g t cs) (n : Nat) : Blk (w.drewN n) g t cs := h
end
theorem own_shape {w : World} {base : Nat} {e : TypeId} {size : Nat} {v : Value} {n : Nat} {xs : List Value} (h : w.ownsRow base e size v n xs) : ∃ a cap, v = .slice a n cap := by
  rcases h.2 with ⟨rfl, rfl⟩ | ⟨g, cap, cur, rfl, _⟩
  · exact ⟨none, 0, rfl⟩
  · exact ⟨_, cap, rfl⟩
theorem own_ne {w : World} {base : Nat} {e : TypeId} {size : Nat} {v : Value} {n : Nat} {xs : List Value} (h : w.ownsRow base e size v n xs) {g : Nat} (hg : g < base) : v.ownBlock ≠ some g := fun e => by
  have := (World.ownsRow.lt h g e).1
  omega
theorem own_far {w : World} {base : Nat} {e : TypeId} {size : Nat} {v : Value} {n : Nat} {xs : List Value} (h : w.ownsRow base e size v n xs) {p : Addr} (hp : p.block < base) (u : Value) : (w.setCell p u).ownsRow base e size v n xs := ownsRow_setCell_below h hp u
end Go.Proofs.YtnofoenkeoabpaaDoor
