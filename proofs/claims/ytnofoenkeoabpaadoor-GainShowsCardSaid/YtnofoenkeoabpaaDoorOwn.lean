/-
  A slice of bytes that the call itself makes and appends to: what it holds; append; as a string.
-/
import Derived.Test.YtnofoenkeoabpaaDoorBytes
import Derived.Deep.AppendLies
namespace Go.Proofs.YtnofoenkeoabpaaDoor
open Go.RowKit

/-- The slice value v, in blocks from B on, owns the bytes bl. -/
def OwnB (w : World) (B : Nat) (v : Value) (bl : List UInt8) : Prop := w.ownsRow B 5 1 v bl.length (bl.map fun u => Value.int .u8 ((u.toNat : Nat) : Int))

theorem OwnB.nil (w : World) (B : Nat) : OwnB w B (.slice none 0 0) [] := World.ownsRow_nil _ _ _ _

/-- Its form. -/
theorem OwnB.form {w : World} {B : Nat} {v : Value} {bl : List UInt8} (h : OwnB w B v bl) : (v = .slice none 0 0 ∧ bl = []) ∨ ∃ g cap, v = .slice (some ⟨g, 0, none⟩) bl.length cap ∧ B ≤ g ∧ g < w.heap.size ∧ bl.length ≤ cap ∧ BytesAt w g bl := by
  obtain ⟨h1, h2⟩ := h
  rcases h2 with ⟨h2, h3⟩ | ⟨g, cap, cur, rfl, hB, hg, hn, hc, hs, hx⟩
  · exact .inl ⟨h2, List.length_eq_zero_iff.1 h3⟩
  · refine .inr ⟨g, cap, rfl, hB, (Array.getElem?_eq_some_iff.1 hg).1, hn, fun j hj => ⟨?_, ?_⟩⟩
    · have h4 : (bl.map fun u => Value.int .u8 ((u.toNat : Nat) : Int))[j]? = some (.int .u8 ((bl.getD j 0).toNat : Nat)) := by simp [hj, List.getD]
      have h5 : (cur.toList.take (bl.length * 1))[j]? = cur[j]? := by rw [List.getElem?_take_of_lt (by omega)]; simp
      rw [← hx, h5] at h4
      simp [World.cell?, hg, h4]
    · simp [World.frozen?, hg]

theorem OwnB.below {w w' : World} {B : Nat} {v : Value} {bl : List UInt8} (h : OwnB w B v bl) (hb : Below w.heap.size w w') : OwnB w' B v bl := by
  refine ⟨h.1, ?_⟩
  rcases h.2 with h2 | ⟨g, cap, cur, hv, hB, hg, r⟩
  · exact .inl h2
  · exact .inr ⟨g, cap, cur, hv, hB, by rw [hb.block g (Array.getElem?_eq_some_iff.1 hg).1]; exact hg, r⟩

theorem OwnB.alloc {w : World} {B : Nat} {v : Value} {bl : List UInt8} (h : OwnB w B v bl) (o : Obj) : OwnB (w.alloc o) B v bl := World.ownsRow.alloc h o

/-- It has just been made out of bytes that are written out. -/
theorem OwnB.made {w : World} {B : Nat} (bl : List UInt8) (hB : B ≤ w.heap.size) (hl : bl.length ≤ maxLen) {n : Nat} (hn : n = bl.length) {c : Array Value} (hc : c = (bl.map fun u => Value.int .u8 ((u.toNat : Nat) : Int)).toArray) :
    OwnB (w.alloc (.cells c 5)) B (.slice (some ⟨w.heap.size, 0, none⟩) n n) bl := by
  subst hn hc
  refine ⟨by simp, .inr ⟨w.heap.size, bl.length, _, rfl, hB, heap_alloc_new w _, Nat.le_refl _, hl, by simp, ?_⟩⟩
  rw [List.take_of_length_le (by simp)]

theorem info8 : (Tryd.prog.info? 5).map (fun i => (i.zero, i.size, i.bytes)) = some (some (.int .u8 0), 1, 1) := by kernel_rfl

/-- append(out, b, ..): the bytes appended lie at the head of block g. -/
theorem append_bytes {w : World} {ops : Array Oper} {rest : List Oper} {o : Oper} {a : Act} {Q : Exit → Act → World → Prop} (hgd : o.guard = none) (s x : Operand)
    (ho : o.op = .call { callee := .builtin .append, args := #[s, x], argTypes := #[36, 36] }) {B : Nat} {v : Value} {bl : List UInt8} (hs : a.eval s = v) (hown : OwnB w B v bl)
    {g m c : Nat} (cs : List UInt8) (hx : a.eval x = .slice (some ⟨g, 0, none⟩) m c) (hl : cs.length = m) (hcell : ∀ j, j < m → w.cell? ⟨g, j, none⟩ = some (.int .u8 ((cs.getD j 0).toNat : Nat))) (hlen : bl.length + m ≤ 140737488355328) {w0 : World} (hb : Below B w0 w) (hB : B ≤ w.heap.size)
    (h : ∀ v' w', OwnB w' B v' (bl ++ cs) → Below B w0 w' → B ≤ w'.heap.size → wpList Tryd.prog ops Q rest (a.put o.dst v') w') : wpList Tryd.prog ops Q (o :: rest) a w := by
  obtain ⟨i0, hi, hz0, hz1, hz2⟩ := info_parts info8
  refine wpList_append_own w hgd s x 36 ho B 5 i0 (.int .u8 0) 1 1 Tryd.underlying36 hi hz0 hz1 hz2 rfl (by omega) v bl.length _ hs hown ⟨g, 0, none⟩ m c (cs.map fun u => Value.int .u8 ((u.toNat : Nat) : Int)) hx (by simp [hl])
    ?_ (by intro u hu; simp at hu; obtain ⟨y, _, rfl⟩ := hu; rfl) (by unfold maxLen; omega) (by omega) hB ?_
  · intro j u hj
    have hj' : j < cs.length := by
      rcases Nat.lt_or_ge j cs.length with h' | h'
      · exact h'
      · rw [List.getElem?_eq_none (by simpa using h')] at hj; cases hj
    rw [addr_add, Nat.zero_add, hcell j (by omega), ← hj]
    simp [hj', List.getD]
  · intro v' w' h2 h3 _
    refine h v' w' ?_ (hb.grown h3 hB fun k hk => (World.ownsRow.lt hown k hk).1) (Nat.le_trans hB h3.size)
    have : (bl ++ cs).length = bl.length + m := by simp [hl]
    unfold OwnB
    rw [this, List.map_append]
    exact h2

/-- string(out). -/
theorem OwnB.conv {w : World} {B : Nat} {v : Value} {bl : List UInt8} (h : OwnB w B v bl) : (convert 36 9 v).run Tryd.prog w = .ok (.string (S bl)) w := by
  rcases h.form with ⟨rfl, rfl⟩ | ⟨g, cap, rfl, _, _, _, hb⟩
  · exact run_convert_bytes_nil w _ _ Tryd.underlying36 Tryd.underlying5 _ _ _ Tryd.underlying9
  · rw [run_convK _ _ _ Tryd.underlying36 Tryd.underlying5 Tryd.underlying9, hb.bytes rfl]; rfl

theorem cell_new (w : World) (v : Value) (e : TypeId) : (w.alloc (.cells #[v] e)).cell? ⟨w.heap.size, 0, none⟩ = some v := by simp

/-- append(out, c). -/
theorem append_byte {w : World} {ops : Array Oper} {rest : List Oper} {o : Oper} {a : Act} {Q : Exit → Act → World → Prop} (hgd : o.guard = none) (s x : Operand)
    (ho : o.op = .call { callee := .builtin .append, args := #[s, x], argTypes := #[36, 36] }) {B : Nat} {v : Value} {bl : List UInt8} (hs : a.eval s = v) (hown : OwnB w B v bl)
    {g : Nat} (c : UInt8) (hx : a.eval x = .slice (some ⟨g, 0, none⟩) 1 1) (hcell : w.cell? ⟨g, 0, none⟩ = some (.int .u8 ((c.toNat : Nat) : Int))) (hlen : bl.length + 1 ≤ 140737488355328) {w0 : World} (hb : Below B w0 w) (hB : B ≤ w.heap.size)
    (h : ∀ v' w', OwnB w' B v' (bl ++ [c]) → Below B w0 w' → B ≤ w'.heap.size → wpList Tryd.prog ops Q rest (a.put o.dst v') w') : wpList Tryd.prog ops Q (o :: rest) a w :=
  append_bytes hgd s x ho hs hown [c] hx rfl (fun j hj => by obtain rfl : j = 0 := by omega
                                                             simpa using hcell) hlen hb hB h

/-- append(out, c), the new slice written out, and where it lies. -/
theorem append_byte_lies {w : World} {ops : Array Oper} {rest : List Oper} {o : Oper} {a : Act} {Q : Exit → Act → World → Prop} (hgd : o.guard = none) (s x : Operand)
    (ho : o.op = .call { callee := .builtin .append, args := #[s, x], argTypes := #[36, 36] }) {B : Nat} {v : Value} {bl : List UInt8} (hs : a.eval s = v) (hown : OwnB w B v bl)
    {g : Nat} (c : UInt8) (hx : a.eval x = .slice (some ⟨g, 0, none⟩) 1 1) (hcell : w.cell? ⟨g, 0, none⟩ = some (.int .u8 ((c.toNat : Nat) : Int))) (hlen : bl.length + 1 ≤ 140737488355328) (hB : B ≤ w.heap.size)
    (h : ∀ g cap w', OwnB w' B (.slice (some ⟨g, 0, none⟩) (bl.length + 1) cap) (bl ++ [c]) → w.grownBy w' v.ownBlock → (v.ownBlock = some g ∨ g = w.heap.size) → wpList Tryd.prog ops Q rest (a.put o.dst (.slice (some ⟨g, 0, none⟩) (bl.length + 1) cap)) w') : wpList Tryd.prog ops Q (o :: rest) a w := by
  obtain ⟨i0, hi, hz0, hz1, hz2⟩ := info_parts info8
  refine wpList_append_lies w hgd s x 36 ho B 5 i0 (.int .u8 0) 1 1 Tryd.underlying36 hi hz0 hz1 hz2 rfl (by omega) v bl.length _ hs hown ⟨g, 0, none⟩ 1 1 [.int .u8 ((c.toNat : Nat) : Int)] hx rfl
    ?_ (by intro u hu; simp at hu; subst hu; rfl) (by omega) (by unfold maxLen; omega) (by omega) hB _ rfl ?_
  · intro j u hj
    rcases j with _ | j
    · simp at hj; subst hj; rw [addr_add]; exact hcell
    · simp at hj
  · intro g' cap w' h2 h3 h4 _
    refine h g' cap w' ?_ h3 h4
    unfold OwnB
    rw [List.length_append, List.map_append]
    exact h2

theorem cells3 (w : World) (e : TypeId) (x y z : Int) (u v t : UInt8) (hx : x = (u.toNat : Nat)) (hy : y = (v.toNat : Nat)) (hz : z = (t.toNat : Nat)) : ∀ j, j < 3 →
    (w.alloc (.cells #[.int .u8 x, .int .u8 y, .int .u8 z] e)).cell? ⟨w.heap.size, j, none⟩ = some (.int .u8 ((([u, v, t] : List UInt8).getD j 0).toNat : Nat)) := by
  subst hx hy hz
  intro j hj
  match j, hj with
  | 0, _ => simp
  | 1, _ => simp
  | 2, _ => simp

end Go.Proofs.YtnofoenkeoabpaaDoor
