/-
  A slice of strings that the call itself makes and appends to: what it holds; append; reading it.
-/
import Derived.Test.YthfnkgofkdahfaaGreatDoorLib
namespace Go.Proofs.YthfnkgofkdahfaaGreatDoor
open Go.RowKit

/-- The slice value v, in blocks from B on, owns the strings xs. -/
def OwnS (w : World) (B : Nat) (v : Value) (xs : List ByteArray) : Prop := w.ownsRow B 9 1 v xs.length (xs.map Value.string)

theorem OwnS.nil (w : World) (B : Nat) : OwnS w B (.slice none 0 0) [] := World.ownsRow_nil _ _ _ _

theorem OwnS.below {w w' : World} {B : Nat} {v : Value} {xs : List ByteArray} (h : OwnS w B v xs) (hb : Below w.heap.size w w') : OwnS w' B v xs := by
  refine ⟨h.1, ?_⟩
  rcases h.2 with h2 | ⟨g, cap, cur, hv, hB, hg, r⟩
  · exact .inl h2
  · exact .inr ⟨g, cap, cur, hv, hB, by rw [hb.block g (Array.getElem?_eq_some_iff.1 hg).1]; exact hg, r⟩

theorem OwnS.alloc {w : World} {B : Nat} {v : Value} {xs : List ByteArray} (h : OwnS w B v xs) (o : Obj) : OwnS (w.alloc o) B v xs := World.ownsRow.alloc h o

/-- Of blocks from an elder place on. -/
theorem OwnS.from {w : World} {B B' : Nat} {v : Value} {xs : List ByteArray} (h : OwnS w B v xs) (hB : B' ≤ B) : OwnS w B' v xs := by
  refine ⟨h.1, ?_⟩
  rcases h.2 with h2 | ⟨g, cap, cur, hv, hB2, r⟩
  · exact .inl h2
  · exact .inr ⟨g, cap, cur, hv, Nat.le_trans hB hB2, r⟩

/-- As a slice that came in. -/
theorem OwnS.elems {w : World} {B : Nat} {v : Value} {xs : List ByteArray} (h : OwnS w B v xs) (hl : xs.length ≤ maxLen) :
    ∃ a cap, v = .slice a xs.length cap ∧ Elems w w.heap.size a xs.length (xs.map Value.string) := by
  obtain ⟨h1, h2⟩ := h
  rcases h2 with ⟨rfl, h3⟩ | ⟨g, cap, cur, rfl, hB, hg, hn, hc, hs, hx⟩
  · rw [h3]; exact ⟨none, 0, rfl, by simpa using h3, Nat.zero_le _, .inl rfl⟩
  · have hg' := (Array.getElem?_eq_some_iff.1 hg).1
    refine ⟨some ⟨g, 0, none⟩, cap, rfl, by simp, hl, .inr ⟨g, 0, rfl, hg', fun i hi => ?_⟩⟩
    have h5 : (cur.toList.take (xs.length * 1))[i]? = cur[i]? := by rw [List.getElem?_take_of_lt (by omega)]; simp
    rw [← hx, h5]
    have : i < cur.size := by omega
    simp [World.cell?, hg, this]

/-- Its form. -/
theorem OwnS.form {w : World} {B : Nat} {v : Value} {xs : List ByteArray} (h : OwnS w B v xs) : (v = .slice none 0 0 ∧ xs = []) ∨ ∃ g cap, v = .slice (some ⟨g, 0, none⟩) xs.length cap ∧ g < w.heap.size ∧ xs.length ≤ cap ∧ ∀ (j : Nat) x, xs[j]? = some x → w.cell? ⟨g, 0 + j, none⟩ = some (.string x) := by
  obtain ⟨h1, h2⟩ := h
  rcases h2 with ⟨h2, h3⟩ | ⟨g, cap, cur, rfl, hB, hg, hn, hc, hs, hx⟩
  · exact .inl ⟨h2, List.length_eq_zero_iff.1 h3⟩
  · refine .inr ⟨g, cap, rfl, (Array.getElem?_eq_some_iff.1 hg).1, hn, fun j x hj => ?_⟩
    have hjl := (List.getElem?_eq_some_iff.1 hj).1
    have h5 : (cur.toList.take (xs.length * 1))[j]? = cur[j]? := by rw [List.getElem?_take_of_lt (by omega)]; simp
    have h6 : (xs.map Value.string)[j]? = some (.string x) := by rw [List.getElem?_map, hj]; rfl
    rw [Nat.zero_add]
    rw [← hx, h5] at h6
    simp [World.cell?, hg, h6]

theorem infoS : (Tryz.prog.info? 9).map (fun i => (i.zero, i.size, i.bytes)) = some (some (.string ByteArray.empty), 1, 16) := by kernel_rfl

/-- append(out, x). -/
theorem append_string {w : World} {ops : Array Oper} {rest : List Oper} {o : Oper} {a : Act} {Q : Exit → Act → World → Prop} (hgd : o.guard = none) (s x : Operand)
    (ho : o.op = .call { callee := .builtin .append, args := #[s, x], argTypes := #[22, 22] }) {B : Nat} {v : Value} {xs : List ByteArray} (hs : a.eval s = v) (hown : OwnS w B v xs)
    {g : Nat} (c : ByteArray) (hx : a.eval x = .slice (some ⟨g, 0, none⟩) 1 1) (hcell : w.cell? ⟨g, 0, none⟩ = some (.string c)) (hlen : xs.length + 1 ≤ 1000000000000) {w0 : World} (hb : Below B w0 w) (hB : B ≤ w.heap.size)
    (h : ∀ v' w', OwnS w' B v' (xs ++ [c]) → Below B w0 w' → B ≤ w'.heap.size → wpList Tryz.prog ops Q rest (a.put o.dst v') w') : wpList Tryz.prog ops Q (o :: rest) a w := by
  obtain ⟨i0, hi, hz0, hz1, hz2⟩ := info_parts infoS
  refine wpList_append_own w hgd s x 22 ho B 9 i0 (.string ByteArray.empty) 1 16 Tryz.underlying22 hi hz0 hz1 hz2 rfl (by omega) v xs.length _ hs hown ⟨g, 0, none⟩ 1 1 [.string c] hx (by simp)
    ?_ (by intro u hu; simp at hu; subst hu; rfl) (by unfold maxLen; omega) (by omega) hB ?_
  · intro j u hj
    have hj' : j = 0 := by
      rcases j with _ | j
      · rfl
      · simp at hj
    subst hj'
    simp at hj
    subst hj
    rw [addr_add]
    exact hcell
  · intro v' w' h2 h3 _
    refine h v' w' ?_ (hb.grown h3 hB fun k hk => (World.ownsRow.lt hown k hk).1) (Nat.le_trans hB h3.size)
    unfold OwnS
    rw [List.length_append, List.map_append]
    exact h2

/-- make([]string, 0, n). -/
theorem make_strings {w : World} {ops : Array Oper} {rest : List Oper} {o : Oper} {a : Act} {Q : Exit → Act → World → Prop} (hg : o.guard = none) (l c : Operand) (hop : o.op = Op.makeSlice 22 l c) (B : Nat)
    (n : Nat) (hl : a.eval l = .int .i64 0) (hc : a.eval c = .int .i64 (n : Int)) (hn : n ≤ 1000000) {w0 : World} (hb : Below B w0 w) (hB : B ≤ w.heap.size)
    (h : ∀ w', OwnS w' B (.slice (some ⟨w.heap.size, 0, none⟩) 0 n) [] → Below B w0 w' → B ≤ w'.heap.size → wpList Tryz.prog ops Q rest (a.put o.dst (.slice (some ⟨w.heap.size, 0, none⟩) 0 n)) w') : wpList Tryz.prog ops Q (o :: rest) a w := by
  obtain ⟨i0, hi, hz0, hz1, hz2⟩ := info_parts infoS
  refine wpList_make_own _ hg l c 22 hop B 9 i0 (.string ByteArray.empty) 1 Tryz.underlying22 hi hz0 hz1 .i64 .i64 _ n hl hc rfl (by rw [hz2]; omega) (by unfold maxLen; omega) hB fun w' h1 h2 => ?_
  exact h w' h1 (hb.grown h2 hB fun k hk => by cases hk) (Nat.le_trans hB h2.size)

theorem cell_newS (w : World) (v : Value) (e : TypeId) : (w.alloc (.cells #[v] e)).cell? ⟨w.heap.size, 0, none⟩ = some v := by simp
end Go.Proofs.YthfnkgofkdahfaaGreatDoor
