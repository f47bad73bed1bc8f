/-
  The walk of New: variables of an environment.
-/
import Derived.Test.YtjeinpadcknfbaaGreatDoorWB1
import Derived.Lib.ConvBytes
import Derived.Laws.AppendOwnNone
import Derived.OneCell
import Derived.OwnWalk
import Derived.Deep.AppendLies
import Derived.Test.YtjeinpadcknfbaaGreatDoorWB2
import Derived.Deep.QuietTactic
import Derived.BigQuiet
import Derived.Maps.OwnSet
import Derived.WideKeyEntry
import Derived.Laws.DeepStrings4
import Derived.Lib.IndexAny
set_option linter.unusedVariables false
set_option linter.unusedSimpArgs false
/-
  A block of bytes of the call's own, made by []byte(s), written byte by byte, read back by string(b).
-/
namespace Go.Proofs.YtjeinpadcknfbaaGreatDoor
open Go.RowKit

theorem bits_xor_u8 (u v : UInt8) {x y : Int} (hx : x = (u.toNat : Nat)) (hy : y = (v.toNat : Nat)) : bits BinOp.xor .u8 x y = (((u ^^^ v).toNat : Nat) : Int) := by
  subst hx hy
  have hu := u.toNat_lt
  have hv := v.toNat_lt
  have hxor : u.toNat ^^^ v.toNat < 2 ^ 8 := Nat.xor_lt_two_pow hu hv
  have e1 : ((u.toNat : Int) % ((2 ^ 8 : Nat) : Int)).toNat = u.toNat := by simp; omega
  have e2 : ((v.toNat : Int) % ((2 ^ 8 : Nat) : Int)).toNat = v.toNat := by simp; omega
  have h : (BitVec.ofInt 8 (u.toNat : Int) ^^^ BitVec.ofInt 8 (v.toNat : Int)).toNat = u.toNat ^^^ v.toNat := by
    rw [BitVec.toNat_xor, BitVec.toNat_ofInt, BitVec.toNat_ofInt, e1, e2]
  show IntKind.u8.wrap (((BitVec.ofInt 8 (u.toNat : Int) ^^^ BitVec.ofInt 8 (v.toNat : Int)).toNat : Nat) : Int) = _
  rw [h, IntWalk.u8_in _ ⟨by omega, by omega⟩, UInt8.toNat_xor]

/-- The bit that a shift of 128 leaves. -/
def bitAt (k : Nat) : UInt8 := UInt8.ofNat (128 / 2 ^ (k % 8))
theorem bitAt_int (k : Nat) : (128 / 2 ^ (k % 8) : Int) = ((bitAt k).toNat : Nat) := by
  have : (128 / 2 ^ (k % 8) : Nat) < 256 := Nat.lt_of_le_of_lt (Nat.div_le_self _ _) (by omega)
  have e : (bitAt k).toNat = 128 / 2 ^ (k % 8) := by simp [bitAt]; omega
  rw [e]; simp

/-- Block b holds the bytes bl from its head on, and they may be written. -/
def BytesAt (w : World) (b : Nat) (bl : List UInt8) : Prop := ∀ j, j < bl.length → w.cell? ⟨b, j, none⟩ = some (.int .u8 ((bl.getD j 0).toNat : Nat)) ∧ w.frozen? ⟨b, j, none⟩ = false

theorem cellBytes_of {w : World} {b : Nat} : ∀ (bl : List UInt8) (off : Nat), (∀ j, j < bl.length → w.cell? ⟨b, off + j, none⟩ = some (.int .u8 ((bl.getD j 0).toNat : Nat))) → cellBytes w b off bl.length = some bl
  | [], _, _ => rfl
  | c :: bl, off, h => by
    have h0 := h 0 (by simp)
    have ih := cellBytes_of bl (off + 1) fun j hj => by
      have := h (j + 1) (by simpa using hj)
      rw [show off + 1 + j = off + (j + 1) by omega, this]; simp
    simp only [Nat.add_zero] at h0
    simp [cellBytes, h0, ih]

theorem BytesAt.bytes {w : World} {b : Nat} {bl : List UInt8} (h : BytesAt w b bl) {n : Nat} (hn : bl.length = n) : cellBytes w b 0 n = some bl := by
  subst hn
  exact cellBytes_of bl 0 fun j hj => by rw [Nat.zero_add]; exact (h j hj).1

theorem BytesAt.below {w w' : World} {b B : Nat} {bl : List UInt8} (h : BytesAt w b bl) (hb : Below B w w') (hB : b < B) : BytesAt w' b bl := fun j hj => by
  rw [hb.cell (p := ⟨b, j, none⟩) hB, hb.frozen (p := ⟨b, j, none⟩) hB]; exact h j hj

theorem BytesAt.set {w : World} {b : Nat} {bl : List UInt8} (h : BytesAt w b bl) {j : Nat} (hj : j < bl.length) {x : Int} {u : UInt8} (hu : x = (u.toNat : Nat)) : BytesAt (w.setCell ⟨b, j, none⟩ (.int .u8 x)) b (bl.set j u) := by
  intro i hi
  have hi' : i < bl.length := by simpa using hi
  refine ⟨?_, by rw [World.frozen?_setCell]; exact (h i hi').2⟩
  by_cases e : j = i
  · subst e
    rw [World.cell?_setCell_same _ _ _ (h j hj).1, hu]
    simp [hj]
  · rw [World.cell?_setCell_other _ _ _ _ (by intro h'; injection h' with _ h'; exact e h'), (h i hi').1]
    simp [List.getElem?_set_ne e]

theorem BytesAt.made (w : World) (e : TypeId) (s : ByteArray) : BytesAt (Lib.bytesWorld w e s) w.heap.size (L s) := by
  intro j hj
  refine ⟨?_, ?_⟩
  · rw [Lib.bytesWorld_cell w e s j hj]; rfl
  · have hc : s.size ≤ (Lib.bytesCells w e s).size := by simp [Lib.bytesCells]
    have hj' : j < s.size := hj
    simp [World.frozen?, Lib.bytesWorld_at_new]
    omega

@[go_sem] theorem Tryz.toBytes (w : World) (s : ByteArray) : (convert 9 72 (.string s)).run Tryz.prog w = .ok (.slice (some ⟨w.heap.size, 0, none⟩) s.size (grownCap w s.size 0 5)) (Lib.bytesWorld w 5 s) :=
  Lib.run_convert_string_bytes w _ _ _ s Tryz.underlying9 Tryz.underlying72 Tryz.underlying5

theorem below_bytesWorld (w : World) (e : TypeId) (s : ByteArray) : Below w.heap.size w (Lib.bytesWorld w e s) :=
  ⟨rfl, rfl, rfl, by rw [Lib.bytesWorld_size]; omega, fun k hk => Lib.bytesWorld_at_old w e s k hk⟩
end Go.Proofs.YtjeinpadcknfbaaGreatDoor
/-
  A slice of strings that the call itself makes and appends to: what it holds; append; reading it.
-/
namespace Go.Proofs.YtjeinpadcknfbaaGreatDoor
open Go.RowKit

/-- The slice value v, in blocks from B on, owns the strings xs. -/
def OwnS (w : World) (B : Nat) (v : Value) (xs : List ByteArray) : Prop := w.ownsRow B 9 1 v xs.length (xs.map Value.string)

theorem OwnS.nil (w : World) (B : Nat) : OwnS w B (.slice none 0 0) [] := World.ownsRow_nil _ _ _ _

theorem OwnS.below {w w' : World} {B : Nat} {v : Value} {xs : List ByteArray} (h : OwnS w B v xs) (hb : Below w.heap.size w w') : OwnS w' B v xs := by
  refine ⟨h.1, ?_⟩
  rcases h.2 with h2 | ⟨g, cap, cur, hv, hB, hg, r⟩
  · exact .inl h2
  · exact .inr ⟨g, cap, cur, hv, hB, by rw [hb.block g (Array.getElem?_eq_some_iff.1 hg).1]; exact hg, r⟩

theorem OwnS.alloc {w : World} {B : Nat} {v : Value} {xs : List ByteArray} (h : OwnS w B v xs) (o : Obj) : OwnS (w.alloc o) B v xs := World.ownsRow.alloc h o

/-- Of blocks from an elder place on. -/
theorem OwnS.from {w : World} {B B' : Nat} {v : Value} {xs : List ByteArray} (h : OwnS w B v xs) (hB : B' ≤ B) : OwnS w B' v xs := by
  refine ⟨h.1, ?_⟩
  rcases h.2 with h2 | ⟨g, cap, cur, hv, hB2, r⟩
  · exact .inl h2
  · exact .inr ⟨g, cap, cur, hv, Nat.le_trans hB hB2, r⟩

/-- As a slice that came in. -/
theorem OwnS.elems {w : World} {B : Nat} {v : Value} {xs : List ByteArray} (h : OwnS w B v xs) (hl : xs.length ≤ maxLen) :
    ∃ a cap, v = .slice a xs.length cap ∧ Elems w w.heap.size a xs.length (xs.map Value.string) := by
  obtain ⟨h1, h2⟩ := h
  rcases h2 with ⟨rfl, h3⟩ | ⟨g, cap, cur, rfl, hB, hg, hn, hc, hs, hx⟩
  · rw [h3]; exact ⟨none, 0, rfl, by simpa using h3, Nat.zero_le _, .inl rfl⟩
  · have hg' := (Array.getElem?_eq_some_iff.1 hg).1
    refine ⟨some ⟨g, 0, none⟩, cap, rfl, by simp, hl, .inr ⟨g, 0, rfl, hg', fun i hi => ?_⟩⟩
    have h5 : (cur.toList.take (xs.length * 1))[i]? = cur[i]? := by rw [List.getElem?_take_of_lt (by omega)]; simp
    rw [← hx, h5]
    have : i < cur.size := by omega
    simp [World.cell?, hg, this]

/-- Its form. -/
theorem OwnS.form {w : World} {B : Nat} {v : Value} {xs : List ByteArray} (h : OwnS w B v xs) : (v = .slice none 0 0 ∧ xs = []) ∨ ∃ g cap, v = .slice (some ⟨g, 0, none⟩) xs.length cap ∧ g < w.heap.size ∧ xs.length ≤ cap ∧ ∀ (j : Nat) x, xs[j]? = some x → w.cell? ⟨g, 0 + j, none⟩ = some (.string x) := by
  obtain ⟨h1, h2⟩ := h
  rcases h2 with ⟨h2, h3⟩ | ⟨g, cap, cur, rfl, hB, hg, hn, hc, hs, hx⟩
  · exact .inl ⟨h2, List.length_eq_zero_iff.1 h3⟩
  · refine .inr ⟨g, cap, rfl, (Array.getElem?_eq_some_iff.1 hg).1, hn, fun j x hj => ?_⟩
    have hjl := (List.getElem?_eq_some_iff.1 hj).1
    have h5 : (cur.toList.take (xs.length * 1))[j]? = cur[j]? := by rw [List.getElem?_take_of_lt (by omega)]; simp
    have h6 : (xs.map Value.string)[j]? = some (.string x) := by rw [List.getElem?_map, hj]; rfl
    rw [Nat.zero_add]
    rw [← hx, h5] at h6
    simp [World.cell?, hg, h6]

theorem infoS : (Tryz.prog.info? 9).map (fun i => (i.zero, i.size, i.bytes)) = some (some (.string ByteArray.empty), 1, 16) := by kernel_rfl

/-- append(out, x). -/
theorem append_string {w : World} {ops : Array Oper} {rest : List Oper} {o : Oper} {a : Act} {Q : Exit → Act → World → Prop} (hgd : o.guard = none) (s x : Operand)
    (ho : o.op = .call { callee := .builtin .append, args := #[s, x], argTypes := #[26, 26] }) {B : Nat} {v : Value} {xs : List ByteArray} (hs : a.eval s = v) (hown : OwnS w B v xs)
    {g : Nat} (c : ByteArray) (hx : a.eval x = .slice (some ⟨g, 0, none⟩) 1 1) (hcell : w.cell? ⟨g, 0, none⟩ = some (.string c)) (hlen : xs.length + 1 ≤ 1000000000000) {w0 : World} (hb : Below B w0 w) (hB : B ≤ w.heap.size)
    (h : ∀ v' w', OwnS w' B v' (xs ++ [c]) → Below B w0 w' → B ≤ w'.heap.size → wpList Tryz.prog ops Q rest (a.put o.dst v') w') : wpList Tryz.prog ops Q (o :: rest) a w := by
  obtain ⟨i0, hi, hz0, hz1, hz2⟩ := info_parts infoS
  refine wpList_append_own w hgd s x 26 ho B 9 i0 (.string ByteArray.empty) 1 16 Tryz.underlying26 hi hz0 hz1 hz2 rfl (by omega) v xs.length _ hs hown ⟨g, 0, none⟩ 1 1 [.string c] hx (by simp)
    ?_ (by intro u hu; simp at hu; subst hu; rfl) (by unfold maxLen; omega) (by omega) hB ?_
  · intro j u hj
    have hj' : j = 0 := by
      rcases j with _ | j
      · rfl
      · simp at hj
    subst hj'
    simp at hj
    subst hj
    rw [addr_add]
    exact hcell
  · intro v' w' h2 h3 _
    refine h v' w' ?_ (hb.grown h3 hB fun k hk => (World.ownsRow.lt hown k hk).1) (Nat.le_trans hB h3.size)
    unfold OwnS
    rw [List.length_append, List.map_append]
    exact h2

/-- make([]string, 0, n). -/
theorem make_strings {w : World} {ops : Array Oper} {rest : List Oper} {o : Oper} {a : Act} {Q : Exit → Act → World → Prop} (hg : o.guard = none) (l c : Operand) (hop : o.op = Op.makeSlice 26 l c) (B : Nat)
    (n : Nat) (hl : a.eval l = .int .i64 0) (hc : a.eval c = .int .i64 (n : Int)) (hn : n ≤ 1000000) {w0 : World} (hb : Below B w0 w) (hB : B ≤ w.heap.size)
    (h : ∀ w', OwnS w' B (.slice (some ⟨w.heap.size, 0, none⟩) 0 n) [] → Below B w0 w' → B ≤ w'.heap.size → wpList Tryz.prog ops Q rest (a.put o.dst (.slice (some ⟨w.heap.size, 0, none⟩) 0 n)) w') : wpList Tryz.prog ops Q (o :: rest) a w := by
  obtain ⟨i0, hi, hz0, hz1, hz2⟩ := info_parts infoS
  refine wpList_make_own _ hg l c 26 hop B 9 i0 (.string ByteArray.empty) 1 Tryz.underlying26 hi hz0 hz1 .i64 .i64 _ n hl hc rfl (by rw [hz2]; omega) (by unfold maxLen; omega) hB fun w' h1 h2 => ?_
  exact h w' h1 (hb.grown h2 hB fun k hk => by cases hk) (Nat.le_trans hB h2.size)

theorem cell_newS (w : World) (v : Value) (e : TypeId) : (w.alloc (.cells #[v] e)).cell? ⟨w.heap.size, 0, none⟩ = some v := by simp
end Go.Proofs.YtjeinpadcknfbaaGreatDoor
/-
  Slices whose elements take any number of cells: what they hold; an element's place; cutting; appending to a slice of the call's own.
-/
namespace Go.Proofs.YtjeinpadcknfbaaGreatDoor
open Go.RowKit

/-- A frame whose unknown slots are one function's values. -/
theorem fr_intro {a : Act} {F : (Nat → Value) → Act} (h : a = F (fun i => a.tmps.getD i undef)) : ∃ u, a = F u := ⟨_, h⟩

/-- v is a slice of n elements, of size cells each, below block B; xs are all cells. -/
def Sl (w : World) (B size : Nat) (v : Value) (n : Nat) (xs : List Value) : Prop :=
  xs.length = n * size ∧ ∃ a cap, v = .slice a n cap ∧ n ≤ cap ∧ cap ≤ maxLen ∧ (n = 0 ∨ ∃ b off, a = some ⟨b, off, none⟩ ∧ b < B ∧ ∀ j, j < n * size → w.cell? ⟨b, off + j, none⟩ = xs[j]?)

section
variable {w w' : World} {B B' size n : Nat} {v : Value} {xs : List Value}
theorem Sl.nil (w : World) (B size : Nat) : Sl w B size (.slice none 0 0) 0 [] := ⟨by simp, none, 0, rfl, Nat.le_refl _, Nat.zero_le _, .inl rfl⟩
theorem Sl.keep (h : Sl w B size v n xs) (hc : ∀ b o, b < B → w'.cell? ⟨b, o, none⟩ = w.cell? ⟨b, o, none⟩) : Sl w' B size v n xs := by
  obtain ⟨h1, a, cap, h2, h3, h4, h5⟩ := h
  refine ⟨h1, a, cap, h2, h3, h4, ?_⟩
  rcases h5 with h5 | ⟨b, off, ha, hb, hx⟩
  · exact .inl h5
  · exact .inr ⟨b, off, ha, hb, fun j hj => by rw [hc _ _ hb]; exact hx j hj⟩
theorem Sl.mono (h : Sl w B size v n xs) (hB : B ≤ B') : Sl w B' size v n xs := by
  obtain ⟨h1, a, cap, h2, h3, h4, h5⟩ := h
  refine ⟨h1, a, cap, h2, h3, h4, ?_⟩
  rcases h5 with h5 | ⟨b, off, ha, hb, hx⟩
  · exact .inl h5
  · exact .inr ⟨b, off, ha, by omega, hx⟩
theorem Sl.below (h : Sl w B size v n xs) (hb : Below B w w') : Sl w' B size v n xs := h.keep fun b o hlt => hb.cell (p := ⟨b, o, none⟩) hlt
theorem Sl.set (h : Sl w B size v n xs) {p : Addr} (hp : B ≤ p.block) (u : Value) : Sl (w.setCell p u) B size v n xs :=
  h.keep fun b o hlt => World.cell?_setCell_other w p _ u (fun e => by subst e; simp at hp; omega)
theorem Sl.grown (h : Sl w B size v n xs) {row : Option Nat} (hg : w.grownBy w' row) (hB : B ≤ w.heap.size) (hr : ∀ g, row = some g → B ≤ g) : Sl w' B size v n xs :=
  h.keep fun b o hlt => World.cell?_of_block (hg.block b (by omega) (fun e => by have := hr _ e.symm; omega))
theorem Sl.len (h : Sl w B size v n xs) : n ≤ maxLen := by obtain ⟨_, _, _, _, h3, h4, _⟩ := h; omega
theorem Sl.of_own {base : Nat} {e : TypeId} (h : w.ownsRow base e size v n xs) : Sl w w.heap.size size v n xs := by
  obtain ⟨h1, h2⟩ := h
  refine ⟨h1, ?_⟩
  rcases h2 with ⟨rfl, h3⟩ | ⟨g, cap, cur, rfl, hB, hg, hn, hc, hs, hx⟩
  · exact ⟨none, 0, by rw [h3], by omega, Nat.zero_le _, .inl h3⟩
  · refine ⟨some ⟨g, 0, none⟩, cap, rfl, hn, hc, .inr ⟨g, 0, rfl, (Array.getElem?_eq_some_iff.1 hg).1, fun j hj => ?_⟩⟩
    rw [← hx, List.getElem?_take_of_lt hj, Nat.zero_add]
    simp [World.cell?, hg]

/-- What a walk wants: its form; where an element lies; its cells. -/
theorem Sl.open {P : Program} (h : Sl w B size v n xs) (T E : Nat) (hT : P.underlying T = some (.slice E)) (hs : (P.info? E).map (·.size) = some size) :
    ∃ a cap b off, v = .slice a n cap ∧ n ≤ cap ∧ n ≤ maxLen ∧ (∀ (k : Nat) (w' : World), k < n → (Instr.indexAt T (.slice a n cap) (.int .i64 (k : Int))).run P w' = .ok (.pointer (some ⟨b, off + k * size, none⟩)) w') ∧ (n = 0 ∨ b < B) ∧
      ∀ j, j < n * size → w.cell? ⟨b, off + j, none⟩ = xs[j]? := by
  obtain ⟨h1, a, cap, rfl, h3, h4, h5⟩ := h
  rcases h5 with h5 | ⟨b, off, rfl, hB, hc⟩
  · subst h5; exact ⟨a, cap, 0, 0, rfl, h3, Nat.zero_le _, fun k _ hk => by omega, .inl rfl, fun j hj => by omega⟩
  · refine ⟨_, cap, b, off, rfl, h3, by omega, fun k w' hk => ?_, .inr hB, hc⟩
    have he : P.elem T = E := by simp [Program.elem, hT]
    rw [run_indexAt_slice _ _ _ _ _ _ _ (by rw [he]; exact hT), if_pos ⟨by omega, by omega⟩, he]
    obtain ⟨i, hi, hi1⟩ := Option.map_eq_some_iff.1 hs
    simp [sizeOf, typeInfo, hi, hi1, Result.andThen, addr_add]

/-- v[k:] -/
theorem Sl.cut {P : Program} (h : Sl w B size v n xs) (T E : Nat) (hT : P.underlying T = some (.slice E)) (hs : (P.info? E).map (·.size) = some size) {k : Nat} (hk : k ≤ n) :
    ∃ v', (∀ (w' : World), (Instr.slice T v (some (.int .i64 (k : Int))) none none).run P w' = .ok v' w') ∧ Sl w B size v' (n - k) (xs.drop (k * size)) := by
  obtain ⟨h1, a, cap, rfl, h3, h4, h5⟩ := h
  have he : P.elem T = E := by simp [Program.elem, hT]
  obtain ⟨i, hi, hi1⟩ := Option.map_eq_some_iff.1 hs
  refine ⟨sliced a k n cap size, fun w' => ?_, ?_⟩
  · rw [run_slice_l w' T a n cap (by rw [he]; exact hT) .i64 k (by omega) (by omega), he]
    simp [sizeOf, typeInfo, hi, hi1, Result.andThen]
  · refine ⟨by rw [List.length_drop, h1, Nat.sub_mul], _, _, rfl, by omega, by omega, ?_⟩
    rcases h5 with h5 | ⟨b, off, rfl, hB, hc⟩
    · exact .inl (by omega)
    · by_cases e : n = k
      · exact .inl (by omega)
      · refine .inr ⟨b, off + k * size, ?_, hB, fun j hj => ?_⟩
        · rw [if_neg (by omega), Option.map_some, addr_add]
        · rw [Nat.add_assoc, hc (k * size + j) (by rw [Nat.sub_mul] at hj; omega), List.getElem?_drop]

/-- The cells of an element. -/
theorem flat_get {α : Type} (f : α → List Value) (size : Nat) (hf : ∀ x, (f x).length = size) : ∀ (l : List α) (k : Nat) (x : α), l[k]? = some x → ∀ j, j < size → (l.flatMap f)[k * size + j]? = (f x)[j]?
  | [], k, x, h, _, _ => by simp at h
  | y :: l, 0, x, h, j, hj => by
    simp at h; subst h
    rw [List.flatMap_cons, Nat.zero_mul, Nat.zero_add, List.getElem?_append_left (by rw [hf]; exact hj)]
  | y :: l, k + 1, x, h, j, hj => by
    rw [List.flatMap_cons, List.getElem?_append_right (by rw [hf, Nat.succ_mul]; omega), hf, show (k + 1) * size + j - size = k * size + j by rw [Nat.succ_mul]; omega]
    exact flat_get f size hf l k x (by simpa using h) j hj
theorem flat_len {α : Type} (f : α → List Value) (size : Nat) (hf : ∀ x, (f x).length = size) : ∀ (l : List α), (l.flatMap f).length = l.length * size
  | [] => by simp
  | y :: l => by rw [List.flatMap_cons, List.length_append, hf, flat_len f size hf l, List.length_cons, Nat.succ_mul]; omega
theorem flat_drop {α : Type} (f : α → List Value) (size : Nat) (hf : ∀ x, (f x).length = size) : ∀ (l : List α) (k : Nat), (l.flatMap f).drop (k * size) = (l.drop k).flatMap f
  | l, 0 => by simp
  | [], k + 1 => by simp
  | y :: l, k + 1 => by
    rw [List.flatMap_cons, List.drop_append, hf, List.drop_of_length_le (by rw [hf, Nat.succ_mul]; omega), List.nil_append, show (k + 1) * size - size = k * size by rw [Nat.succ_mul]; omega, List.drop_succ_cons]
    exact flat_drop f size hf l k

/-- append(s, x...), s the call's own, x whatever lies ready. -/
theorem append_sl {P : Program} {ops : Array Oper} {rest : List Oper} {o : Oper} {a : Act} {Q : Exit → Act → World → Prop} (hgd : o.guard = none) (s x : Operand) (t : TypeId)
    (ho : o.op = .call { callee := .builtin .append, args := #[s, x], argTypes := #[t, t] }) (base : Nat) (e : TypeId) {z : Value} {bytes : Nat} (ht : P.underlying t = some (.slice e))
    (hinfo : (P.info? e).map (fun i => (i.zero, i.size, i.bytes)) = some (some z, size, bytes)) (hzs : z.cells.size = size) (hsz : 0 < size)
    {v : Value} {n : Nat} {xs : List Value} (hs : a.eval s = v) (hown : w.ownsRow base e size v n xs) {vx : Value} {m : Nat} {news : List Value} {B : Nat} (hx : a.eval x = vx) (hsl : Sl w B size vx m news) (hne : 0 < m) (h1 : ∀ u ∈ news, u.oneCell' = true)
    (hlen : (n + m) * (bytes + 1) ≤ 140737488355328) (hbase : base ≤ w.heap.size)
    (h : ∀ g cap w', w'.ownsRow base e size (.slice (some ⟨g, 0, none⟩) (n + m) cap) (n + m) (xs ++ news) → w.grownBy w' v.ownBlock → (v.ownBlock = some g ∨ g = w.heap.size) → g < w'.heap.size → wpList P ops Q rest (a.put o.dst (.slice (some ⟨g, 0, none⟩) (n + m) cap)) w') : wpList P ops Q (o :: rest) a w := by
  obtain ⟨i0, hi, hz0, hz1, hz2⟩ := info_parts hinfo
  obtain ⟨k1, ax, cx, rfl, k3, k4, k5⟩ := hsl
  rcases k5 with k5 | ⟨b, off, rfl, kB, kc⟩
  · omega
  have hb1 : (n + m) * bytes ≤ 140737488355328 := Nat.le_trans (Nat.mul_le_mul_left _ (by omega)) hlen
  have hb2 : n + m ≤ 140737488355328 := Nat.le_trans (Nat.le_mul_of_pos_right _ (by omega)) hlen
  exact wpList_append_lies w hgd s x t ho base e i0 z size bytes ht hi hz0 hz1 hz2 hzs hsz v n xs hs hown ⟨b, off, none⟩ m cx news hx k1 (fun j u hj => by
    have hj' : j < m * size := by rw [← k1]; exact (List.getElem?_eq_some_iff.1 hj).1
    rw [addr_add, kc j hj', hj]) h1 hne (by unfold maxLen; omega) hb1 hbase _ rfl h

/-- The same, its bounds one by one. -/
theorem append_sl2 {P : Program} {ops : Array Oper} {rest : List Oper} {o : Oper} {a : Act} {Q : Exit → Act → World → Prop} (hgd : o.guard = none) (s x : Operand) (t : TypeId)
    (ho : o.op = .call { callee := .builtin .append, args := #[s, x], argTypes := #[t, t] }) (base : Nat) (e : TypeId) {z : Value} {bytes : Nat} (ht : P.underlying t = some (.slice e))
    (hinfo : (P.info? e).map (fun i => (i.zero, i.size, i.bytes)) = some (some z, size, bytes)) (hzs : z.cells.size = size) (hsz : 0 < size)
    {v : Value} {n : Nat} {xs : List Value} (hs : a.eval s = v) (hown : w.ownsRow base e size v n xs) {vx : Value} {m : Nat} {news : List Value} {B : Nat} (hx : a.eval x = vx) (hsl : Sl w B size vx m news) (hne : 0 < m) (h1 : ∀ u ∈ news, u.oneCell' = true)
    (hb1 : (n + m) * bytes ≤ 140737488355328) (hb2 : n + m ≤ maxLen) (hbase : base ≤ w.heap.size)
    (h : ∀ g cap w', w'.ownsRow base e size (.slice (some ⟨g, 0, none⟩) (n + m) cap) (n + m) (xs ++ news) → w.grownBy w' v.ownBlock → (v.ownBlock = some g ∨ g = w.heap.size) → g < w'.heap.size → wpList P ops Q rest (a.put o.dst (.slice (some ⟨g, 0, none⟩) (n + m) cap)) w') : wpList P ops Q (o :: rest) a w := by
  obtain ⟨i0, hi, hz0, hz1, hz2⟩ := info_parts hinfo
  obtain ⟨k1, ax, cx, rfl, k3, k4, k5⟩ := hsl
  rcases k5 with k5 | ⟨b, off, rfl, kB, kc⟩
  · omega
  exact wpList_append_lies w hgd s x t ho base e i0 z size bytes ht hi hz0 hz1 hz2 hzs hsz v n xs hs hown ⟨b, off, none⟩ m cx news hx k1 (fun j u hj => by
    have hj' : j < m * size := by rw [← k1]; exact (List.getElem?_eq_some_iff.1 hj).1
    rw [addr_add, kc j hj', hj]) h1 hne hb2 hb1 hbase _ rfl h
end

/-- A row of the call's own stays where only what is new, or another block, turns. -/
theorem own_below {w w' : World} {base : Nat} {e : TypeId} {size : Nat} {v : Value} {n : Nat} {xs : List Value} (h : w.ownsRow base e size v n xs) (hb : Below w.heap.size w w') : w'.ownsRow base e size v n xs := by
  refine ⟨h.1, ?_⟩
  rcases h.2 with h2 | ⟨g, cap, cur, hv, hB, hg, r⟩
  · exact .inl h2
  · exact .inr ⟨g, cap, cur, hv, hB, by rw [hb.block g (Array.getElem?_eq_some_iff.1 hg).1]; exact hg, r⟩
theorem own_from {w : World} {base base' : Nat} {e : TypeId} {size : Nat} {v : Value} {n : Nat} {xs : List Value} (h : w.ownsRow base e size v n xs) (hB : base' ≤ base) : w.ownsRow base' e size v n xs := by
  refine ⟨h.1, ?_⟩
  rcases h.2 with h2 | ⟨g, cap, cur, hv, hB2, r⟩
  · exact .inl h2
  · exact .inr ⟨g, cap, cur, hv, Nat.le_trans hB hB2, r⟩

/-- A slice that has just been made of elements that are written out. -/
theorem sl_made (w : World) (cs : Array Value) (e : TypeId) (n size : Nat) (hs : cs.size = n * size) (hn : n ≤ maxLen) {B : Nat} (hB : w.heap.size < B) : Sl (w.alloc (.cells cs e)) B size (.slice (some ⟨w.heap.size, 0, none⟩) n n) n cs.toList := by
  refine ⟨by simpa using hs, _, _, rfl, Nat.le_refl _, hn, .inr ⟨w.heap.size, 0, rfl, hB, fun j _ => ?_⟩⟩
  rw [Nat.zero_add]
  unfold World.cell?
  rw [heap_alloc_new]
  simp

theorem sl_made_at (w : World) (cs : Array Value) (e : TypeId) (n size : Nat) (hs : cs.size = n * size) (hn : n ≤ maxLen) {g : Nat} (hg : g = w.heap.size) : Sl (w.alloc (.cells cs e)) (w.alloc (.cells cs e)).heap.size size (.slice (some ⟨g, 0, none⟩) n n) n cs.toList := by
  subst hg
  exact sl_made w cs e n size hs hn (by simp)

/-- Block g is just these cells, none of which is frozen. -/
def Blk (w : World) (g : Nat) (t : TypeId) (cs : Array Value) : Prop := w.heap[g]? = some (.cells cs t (0, 0))
section
variable {w w' : World} {g : Nat} {t : TypeId} {cs : Array Value}
theorem Blk.lt (h : Blk w g t cs) : g < w.heap.size := by
  rcases Nat.lt_or_ge g w.heap.size with hlt | hge
  · exact hlt
  · unfold Blk at h; rw [Array.getElem?_eq_none hge] at h; cases h
theorem Blk.cell (h : Blk w g t cs) (i : Nat) : w.cell? ⟨g, i, none⟩ = cs[i]? := by
  unfold Blk at h
  simp [World.cell?, h]
theorem Blk.free (h : Blk w g t cs) (i : Nat) : w.frozen? ⟨g, i, none⟩ = false := by
  unfold Blk at h
  simp [World.frozen?, h]
theorem Blk.new (w : World) (t : TypeId) (cs : Array Value) : Blk (w.alloc (.cells cs t)) w.heap.size t cs := heap_alloc_new w _
theorem Blk.alloc (h : Blk w g t cs) (o : Obj) : Blk (w.alloc o) g t cs := (Below.heap_alloc w o g h.lt).trans h
theorem Blk.put (h : Blk w g t cs) (i : Nat) (u : Value) : Blk (w.setCell ⟨g, i, none⟩ u) g t (cs.setIfInBounds i u) := by
  unfold Blk at h ⊢
  simp [World.setCell, Array.getElem?_modify, h]
theorem Blk.far (h : Blk w g t cs) {p : Addr} (hp : g ≠ p.block) (u : Value) : Blk (w.setCell p u) g t cs := (Below.heap_setCell w p u g hp).trans h
theorem Blk.below {B : Nat} (h : Blk w g t cs) (hb : Below B w w') (hg : g < B) : Blk w' g t cs := (hb.block g hg).trans h
theorem Blk.grown (h : Blk w g t cs) {row : Option Nat} (hg : w.grownBy w' row) (hr : row ≠ some g) : Blk w' g t cs := (hg.block g h.lt (Ne.symm hr)).trans h
theorem Blk.drewN (h : Blk w g t cs) (n : Nat) : Blk (w.drewN n) g t cs := h
end
theorem own_shape {w : World} {base : Nat} {e : TypeId} {size : Nat} {v : Value} {n : Nat} {xs : List Value} (h : w.ownsRow base e size v n xs) : ∃ a cap, v = .slice a n cap := by
  rcases h.2 with ⟨rfl, rfl⟩ | ⟨g, cap, cur, rfl, _⟩
  · exact ⟨none, 0, rfl⟩
  · exact ⟨_, cap, rfl⟩
theorem own_ne {w : World} {base : Nat} {e : TypeId} {size : Nat} {v : Value} {n : Nat} {xs : List Value} (h : w.ownsRow base e size v n xs) {g : Nat} (hg : g < base) : v.ownBlock ≠ some g := fun e => by
  have := (World.ownsRow.lt h g e).1
  omega
theorem own_far {w : World} {base : Nat} {e : TypeId} {size : Nat} {v : Value} {n : Nat} {xs : List Value} (h : w.ownsRow base e size v n xs) {p : Addr} (hp : p.block < base) (u : Value) : (w.setCell p u).ownsRow base e size v n xs := ownsRow_setCell_below h hp u
end Go.Proofs.YtjeinpadcknfbaaGreatDoor
/-
  A shell's parameters: slices.Clone of strings; two lists that are the same; what a Vars holds.
-/
namespace Go.Proofs.YtjeinpadcknfbaaGreatDoor
open Go.RowKit

theorem sl_elems {w : World} {B n : Nat} {v : Value} {xs : List Value} (h : Sl w B 1 v n xs) : ∃ a c, v = .slice a n c ∧ Elems w B a n xs := by
  have hm := h.len
  obtain ⟨h1, a, cap, rfl, h3, h4, h5⟩ := h
  refine ⟨a, cap, rfl, by omega, hm, ?_⟩
  rcases h5 with h5 | ⟨b, off, ha, hb, hc⟩
  · exact .inl h5
  · exact .inr ⟨b, off, ha, hb, fun i hi => hc i (by omega)⟩
theorem clone_any (a : Option Addr) (n c : Nat) (ss : List ByteArray) (w : World) (B : Nat) (h : Elems w B a n (ss.map .string)) (hn : n ≤ 1000) :
    Calls Tryz.prog 13 #[.slice a n c] w fun e w' => ∃ v', e = .returned v' ∧ OwnS w' w.heap.size v' ss ∧ Below w.heap.size w w' := by
  obtain ⟨h1, _, h3⟩ := h
  have hl : ss.length = n := by simpa using h1
  by_cases h0 : n = 0
  · subst h0
    obtain rfl : ss = [] := List.length_eq_zero_iff.1 hl
    cases a with
    | none => exact (Tryz.slices_Clone_string_nil 0 c w).mono fun e w' ⟨q1, q2⟩ => ⟨_, q1, OwnS.nil _ _, by rw [q2]; exact Below.refl _ _⟩
    | some a => exact (Tryz.slices_Clone_string_zero a c w).mono fun e w' ⟨v', q1, q2, _, q3⟩ => ⟨v', q1, q2, q3⟩
  · rcases h3 with h3 | ⟨b, off, rfl, hb, hc⟩
    · exact absurd h3 h0
    · refine (Tryz.slices_Clone_string b off n c ss w (by omega) (by omega) fun j hj => ?_).mono fun e w' ⟨v', q1, q2, _, q3⟩ => ⟨v', q1, ?_, q3⟩
      · rw [hc j (by omega), List.getElem?_map, List.getElem?_eq_getElem hj, List.getD, List.getElem?_eq_getElem hj]; rfl
      · unfold OwnS
        rw [hl]
        rw [List.take_of_length_le (by omega)] at q2
        exact q2

def s_sh : ByteArray := ⟨#[115, 104]⟩
/-- The Vars at block g has the parameters xs. -/
def VAt (w : World) (B g : Nat) (xs : List ByteArray) : Prop := ∃ m v st, Blk w g 51 #[m, .string ⟨#[115, 104]⟩, v, .int .i64 st] ∧ OwnS w B v xs ∧ v.ownBlock ≠ some g
theorem VAt.below {w w' : World} {B g : Nat} {xs : List ByteArray} (h : VAt w B g xs) (hb : Below w.heap.size w w') : VAt w' B g xs := by
  obtain ⟨m, v, st, h1, h2, h3⟩ := h
  exact ⟨m, v, st, h1.below hb h1.lt, h2.below hb, h3⟩
theorem VAt.lt {w : World} {B g : Nat} {xs : List ByteArray} (h : VAt w B g xs) : g < w.heap.size := by
  obtain ⟨m, v, st, h1, _⟩ := h
  exact h1.lt

set_option maxHeartbeats 1000000 in
theorem new_any (a : Option Addr) (n c : Nat) (ss : List ByteArray) (w : World) (B : Nat) (h : Elems w B a n (ss.map .string)) (hB : B ≤ w.heap.size) (hn : n ≤ 1000) :
    Calls Tryz.prog 7 #[.slice none 0 0, .string ⟨#[115, 104]⟩, .slice a n c] w fun e w' => ∃ g, e = .returned (.pointer (some ⟨g, 0, none⟩)) ∧ VAt w' w.heap.size g ss ∧ w.heap.size ≤ g ∧ Below w.heap.size w w' := by
  have CC : Hid (∀ W, Below w.heap.size w W → Calls Tryz.prog 13 #[.slice a n c] W fun e w' => ∃ v', e = .returned v' ∧ OwnS w' W.heap.size v' ss ∧ Below W.heap.size W w') := Lib.hid fun W hW => clone_any a n c ss W B (h.below (hW.mono hB)) hn
  have hmm := @run_makeMap Tryz.prog
  clear h
  go_enter Tryz.func7, Tryz.ntmps7
  go_wp2_with fail
  refine (CC.out _ (by go_grown)).mono ?_
  rintro e w1 ⟨v', rfl, ho, hb1⟩
  have HB1 : Hid (Below w.heap.size w w1) := Lib.hid ((Below.alloc (Below.refl _ _) (Nat.le_refl _) _).trans (hb1.mono (by simp)))
  have hs1 : w.heap.size < w1.heap.size := by have := hb1.size; simp at this; omega
  have HO := Lib.hid ho
  obtain ⟨va, vc, rfl⟩ := own_shape ho
  clear ho hb1
  go_wp2_with fail
  go_loopw [21] (fun i wr => i = .int .i64 0 ∧ wr = w1.alloc (.cells #[.map (some w.heap.size), .string ⟨#[115, 104]⟩, .slice va ss.length vc, .int .i64 0] 51)) (fun _ _ => 0)
  case atStart => exact ⟨rfl, rfl⟩
  case round =>
    obtain ⟨rfl, rfl⟩ := hrel
    go_wp2
    go_ret
    refine ⟨w1.heap.size, rfl, ⟨_, _, 0, Blk.new w1 _ _, (HO.out.alloc _).from (by simp), ?_⟩, Nat.le_of_lt hs1, HB1.out.alloc (Nat.le_of_lt hs1) _⟩
    rcases HO.out.form with ⟨e0, _⟩ | ⟨q, cap, e0, hq, _⟩
    · rw [e0]; simp [Value.ownBlock]
    · intro e
      rw [e0] at e
      simp [Value.ownBlock] at e
      omega
end Go.Proofs.YtjeinpadcknfbaaGreatDoor
/-
  A map from strings of the call's own, whatever its elements are: what it holds, exactly.
-/
namespace Go.Proofs.YtjeinpadcknfbaaGreatDoor
open Go.RowKit Go.ChangeMaps

/-- An element reads as itself. -/
def RV (v : Value) : Option (DataW Value × List MemPlace) := some (.held v, [])

/-- The map in block b holds m; it has at most n entries. -/
def MapS (w : World) (b n : Nat) (m : List UInt8 → Option Value) : Prop :=
  ∃ D : DataW Value, w.ownsMap Tryz.prog 9 RV b n D ∧ ∀ (t : List UInt8) (z : DataW Value), D.atKey (.string t) z = match m t with | some v => .held v | none => z

section
variable {w w' : World} {b n : Nat} {m : List UInt8 → Option Value}
theorem MapS.lt (h : MapS w b n m) : b < w.heap.size := by
  obtain ⟨D, h1, _⟩ := h
  exact h1.lt
theorem MapS.below (h : MapS w b n m) (hb : Below w.heap.size w w') : MapS w' b n m := by
  obtain ⟨D, h1, h2⟩ := h
  refine ⟨D, ?_, h2⟩
  have hlt := h1.lt
  obtain ⟨es, clock, h0, F, hs, hD⟩ := h1
  exact ⟨es, clock, (hb.block b hlt).trans h0, F, hs, hD⟩
theorem MapS.block (h : MapS w b n m) (hb : w'.heap[b]? = w.heap[b]?) : MapS w' b n m := by
  obtain ⟨D, ⟨es, clock, h0, F, hs, hD⟩, h2⟩ := h
  exact ⟨D, ⟨es, clock, hb.trans h0, F, hs, hD⟩, h2⟩
theorem MapS.kept {row : Option Nat} (h : MapS w b n m) (hg : w.grownBy w' row) (hne : some b ≠ row) : MapS w' b n m := h.block (hg.block b h.lt hne)
theorem MapS.set (h : MapS w b n m) {p : Addr} (hp : b ≠ p.block) (u : Value) : MapS (w.setCell p u) b n m := h.block (Below.heap_setCell _ _ _ _ hp)
theorem MapS.alloc (h : MapS w b n m) (o : Obj) : MapS (w.alloc o) b n m := h.block (Below.heap_alloc w o b h.lt)
theorem MapS.mono (h : MapS w b n m) {n' : Nat} (hn : n ≤ n') : MapS w b n' m := by
  obtain ⟨D, h1, h2⟩ := h
  exact ⟨D, h1.mono hn, h2⟩
theorem MapS.made (w : World) : MapS (w.alloc (.map #[] 0)) w.heap.size 0 (fun _ => none) := ⟨_, World.ownsMap_made _ _ _ _, fun t z => by simp [DataW.atKey]⟩
theorem MapS.put_at {D : DataW Value} (h0 : Maps.IsMap D) (h2 : ∀ (t : List UInt8) (z : DataW Value), D.atKey (.string t) z = match m t with | some v => .held v | none => z) (s : List UInt8) (v : Value) :
    ∀ (t : List UInt8) (z : DataW Value), (D.put (.string s) (.held v)).atKey (.string t) z = match (if t = s then some v else m t) with | some v => .held v | none => z := by
  intro t z
  by_cases e : t = s
  · subst e
    rw [Maps.atKey_put_same h0 (by simp [WideAt.IsKeyLit]), if_pos rfl]
  · rw [Maps.atKey_put_other (by intro h'; injection h' with h'; exact e h'), if_neg e, h2 t]

theorem hasKey_of {D : DataW Value} (h2 : ∀ (t : List UInt8) (z : DataW Value), D.atKey (.string t) z = match m t with | some v => .held v | none => z) (t : List UInt8) : Maps.has D (.string t) = (m t).isSome := by
  cases hm : m t with
  | none => exact Maps.has_false_of_atKey fun z => by rw [h2 t z, hm]
  | some v => exact Maps.has_true_of_atKey fun z => by rw [h2 t z, hm]

/-- m[s] -/
theorem MapS.look (h : MapS w b n m) {T e : TypeId} (ht : Tryz.prog.underlying T = some (.map 9 e)) {z : Value} (hz : (zeroValue e).run Tryz.prog w = .ok z w) (s : ByteArray) (hs : s.size ≤ maxLen) :
    (Instr.lookup T (.map (some b)) (.string s) false).run Tryz.prog w = .ok ((m (L s)).getD z) w := by
  obtain ⟨D, h1, h2⟩ := h
  obtain ⟨v, ps, hr, hv⟩ := h1.lookup (t := T) (Maps.string_keyed Tryz.underlying9) ht hz (zd := .held z) (zp := []) rfl (WideMaps.keyOf_string_mk Tryz.underlying9 hs)
  have h3 := h2 (L s) (.held z)
  rw [hr]
  rw [L] at h3
  simp only [RV, Option.some.injEq, Prod.mk.injEq] at hv
  rw [h3] at hv
  rw [L]
  cases hm : m s.data.toList with
  | none => rw [hm] at hv; simp at hv; simp [hv]
  | some u => rw [hm] at hv; simp at hv; simp [hv]
/-- v, ok := m[s] -/
theorem MapS.look_ok (h : MapS w b n m) {T e : TypeId} (ht : Tryz.prog.underlying T = some (.map 9 e)) {z : Value} (hz : (zeroValue e).run Tryz.prog w = .ok z w) (s : ByteArray) (hs : s.size ≤ maxLen) :
    (Instr.lookup T (.map (some b)) (.string s) true).run Tryz.prog w = .ok (.tuple #[(m (L s)).getD z, .bool (m (L s)).isSome]) w := by
  obtain ⟨D, h1, h2⟩ := h
  obtain ⟨v, ps, hr, hv⟩ := h1.look_ok (t := T) (Maps.string_keyed Tryz.underlying9) ht hz (zd := .held z) (zp := []) rfl (WideMaps.keyOf_string_mk Tryz.underlying9 hs)
  have h3 := h2 (L s) (.held z)
  have h4 := hasKey_of h2 (L s)
  rw [L] at h3 h4
  rw [hr, h4]
  simp only [RV, Option.some.injEq, Prod.mk.injEq] at hv
  rw [h3] at hv
  rw [L]
  cases hm : m s.data.toList with
  | none => rw [hm] at hv; simp at hv; simp [hv]
  | some u => rw [hm] at hv; simp at hv; simp [hv]
end

theorem heap_setBlock_same' (w : World) (b : Nat) (X : Obj) {Y : Obj} (hb : w.heap[b]? = some Y) : (setBlock w b X).heap[b]? = some X := by
  have := (Array.getElem?_eq_some_iff.1 hb).1
  simp [setBlock, this]
theorem heap_setBlock_other' (w : World) (b : Nat) (X : Obj) (i : Nat) (h : i ≠ b) : (setBlock w b X).heap[i]? = w.heap[i]? := by
  simp [setBlock, Ne.symm h]

/-- m[s] = v, at the operation. -/
theorem wpList_put {w : World} {ops : Array Oper} {rest : List Oper} {o : Oper} {a : Act} {Q : Exit → Act → World → Prop} (hg : o.guard = none) (m x v : Operand) (T : TypeId) (hop : o.op = Op.mapUpdate T m x v) (e : TypeId) (ht : Tryz.prog.underlying T = some (.map 9 e))
    {b n : Nat} {f : List UInt8 → Option Value} (hm : a.eval m = .map (some b)) (hown : MapS w b n f) (hn : n < maxLen) (s : ByteArray) (u : Value) (hx : a.eval x = .string s) (hv : a.eval v = u) (hs : s.size ≤ maxLen)
    (hK : ∀ w', MapS w' b (n + 1) (fun t => if t = L s then some u else f t) → w.grownBy w' (some b) → wpList Tryz.prog ops Q rest (a.put o.dst undef) w') : wpList Tryz.prog ops Q (o :: rest) a w := by
  obtain ⟨D, h1, h2⟩ := hown
  exact wpList_mapUpdate_own w hg m x v T hop 9 e (Maps.string_keyed Tryz.underlying9) ht RV b n D hm h1 hn (.string s) u (.string (L s)) hx hv (WideMaps.keyOf_string_mk Tryz.underlying9 hs) (.held u) [] rfl fun w' h3 h4 =>
    hK w' ⟨_, h3, MapS.put_at h1.isMap h2 (L s) u⟩ h4

/-- m[s] = v, as an equation. -/
theorem MapS.put_run {w : World} {b n : Nat} {f : List UInt8 → Option Value} (hown : MapS w b n f) {T e : TypeId} (ht : Tryz.prog.underlying T = some (.map 9 e)) (hn : n < maxLen) (s : ByteArray) (u : Value) (hs : s.size ≤ maxLen) :
    ∃ w', (Instr.mapUpdate T (.map (some b)) (.string s) u).run Tryz.prog w = .ok () w' ∧ MapS w' b (n + 1) (fun t => if t = L s then some u else f t) ∧ w.grownBy w' (some b) := by
  obtain ⟨D, h1, h2⟩ := hown
  obtain ⟨w', hr, r1, r2⟩ := h1.update (Maps.string_keyed Tryz.underlying9) ht hn (val := u) (WideMaps.keyOf_string_mk Tryz.underlying9 hs) (d := .held u) (ps := []) rfl
  exact ⟨w', hr, ⟨_, r1, MapS.put_at h1.isMap h2 (L s) u⟩, r2⟩

/-! ### at a step of a region that draws its order -/
section
variable {w : World} {ops : Array Oper} {o : Oper} {a : Act} {K : Act → World → Prop} {Q : Exit → Act → World → Prop} {E : Prop} {T e : TypeId} {b n : Nat} {f : List UInt8 → Option Value}
theorem step_look (hg : o.guard = none) (m x : Operand) (hop : o.op = Op.lookup T m x false) (ht : Tryz.prog.underlying T = some (.map 9 e)) {z : Value} (hz : ∀ u, (zeroValue e).run Tryz.prog u = .ok z u)
    (hown : MapS w b n f) (s : ByteArray) (hm : a.eval m = .map (some b)) (hx : a.eval x = .string s) (hs : s.size ≤ maxLen) {v : Value} (hv : (f (L s)).getD z = v) (h : K (a.put o.dst v) w) :
    if Region.wanted o (yielded ops a.tmps) = true then Oper.wp Tryz.prog o a w K Q else E := by
  have hw : Region.wanted o (yielded ops a.tmps) = true := by simp [Region.wanted, hg]
  rw [if_pos hw]
  have hr := hown.look ht (hz w) s hs
  unfold Oper.wp
  simp [execOp, hop, hm, hx, hr, hv, Result.andThen]
  exact h
theorem step_look_ok (hg : o.guard = none) (m x : Operand) (hop : o.op = Op.lookup T m x true) (ht : Tryz.prog.underlying T = some (.map 9 e)) {z : Value} (hz : ∀ u, (zeroValue e).run Tryz.prog u = .ok z u)
    (hown : MapS w b n f) (s : ByteArray) (hm : a.eval m = .map (some b)) (hx : a.eval x = .string s) (hs : s.size ≤ maxLen) {v : Value} {ok : Bool} (hv : (f (L s)).getD z = v) (hok : (f (L s)).isSome = ok) (h : K (a.put o.dst (.tuple #[v, .bool ok])) w) :
    if Region.wanted o (yielded ops a.tmps) = true then Oper.wp Tryz.prog o a w K Q else E := by
  have hw : Region.wanted o (yielded ops a.tmps) = true := by simp [Region.wanted, hg]
  rw [if_pos hw]
  have hr := hown.look_ok ht (hz w) s hs
  unfold Oper.wp
  simp [execOp, hop, hm, hx, hr, hv, hok, Result.andThen]
  exact h
theorem step_put (hg : o.guard = none) (m x v : Operand) (hop : o.op = Op.mapUpdate T m x v) (ht : Tryz.prog.underlying T = some (.map 9 e))
    (hown : MapS w b n f) (hn : n < maxLen) (s : ByteArray) (u : Value) (hm : a.eval m = .map (some b)) (hx : a.eval x = .string s) (hv : a.eval v = u) (hs : s.size ≤ maxLen)
    (h : ∀ w', MapS w' b (n + 1) (fun t => if t = L s then some u else f t) → w.grownBy w' (some b) → K (a.put o.dst undef) w') :
    if Region.wanted o (yielded ops a.tmps) = true then Oper.wp Tryz.prog o a w K Q else E := by
  have hw : Region.wanted o (yielded ops a.tmps) = true := by simp [Region.wanted, hg]
  rw [if_pos hw]
  obtain ⟨D, h1, h2⟩ := hown
  obtain ⟨w', hr, r1, r2⟩ := h1.update (Maps.string_keyed Tryz.underlying9) ht hn (val := u) (WideMaps.keyOf_string_mk Tryz.underlying9 hs) (d := .held u) (ps := []) rfl
  unfold Oper.wp
  simp [execOp, hop, hm, hx, hv, hr, Result.andThen]
  exact h _ ⟨_, r1, MapS.put_at h1.isMap h2 (L s) u⟩ r2
/-- What m[s] = v, begun and not ended, may still do. -/
def MapE (w : World) (T : TypeId) (b n : Nat) (s : ByteArray) (st : Value) (f : List UInt8 → Option Value) : Prop :=
  b < w.heap.size ∧ ∀ (w2 : World) (u : Value), w2.heap[b]? = w.heap[b]? → ∃ w3, (Instr.entryStore T (.map (some b)) st u).run Tryz.prog w2 = .ok () w3 ∧ MapS w3 b (n + 1) (fun t => if t = L s then some u else f t) ∧ w2.grownBy w3 (some b)
theorem MapE.below {w w' : World} {s : ByteArray} {st : Value} (h : MapE w T b n s st f) (hb : Below w.heap.size w w') : MapE w' T b n s st f :=
  ⟨Nat.lt_of_lt_of_le h.1 hb.size, fun w2 u he => h.2 w2 u (he.trans (hb.block b h.1))⟩
theorem MapE.set {w : World} {s : ByteArray} {st : Value} (h : MapE w T b n s st f) {p : Addr} (hp : b ≠ p.block) (u : Value) : MapE (w.setCell p u) T b n s st f :=
  ⟨by simpa using h.1, fun w2 u' he => h.2 w2 u' (he.trans (Below.heap_setCell _ _ _ _ hp))⟩
theorem MapS.entry (hown : MapS w b n f) (ht : Tryz.prog.underlying T = some (.map 9 e)) {z : Value} (hz : ∀ u, (zeroValue e).run Tryz.prog u = .ok z u) (hn : n < maxLen) (s : ByteArray) (hs : s.size ≤ maxLen) :
    ∃ v0 st w', (Instr.mapEntry T (.map (some b)) (.string s)).run Tryz.prog w = .ok (.tuple #[v0, st]) w' ∧ MapE w' T b n s st f ∧ w.grownBy w' (some b) := by
  obtain ⟨D, h1, h2⟩ := hown
  have h1' := h1
  obtain ⟨es, clock, hb, F, hsz, hD⟩ := h1
  have hkey := WideMaps.keyOf_string_mk (P := Tryz.prog) (s := s) Tryz.underlying9 hs
  have K : Maps.Keyed Tryz.prog 9 := Maps.string_keyed Tryz.underlying9
  obtain ⟨v0, st, es1, clock1, hr, _, hst⟩ := WideElems.entry_then_store (WideMaps.string_law Tryz.underlying9) ht hz hb F hkey
  have gset : ∀ (w2 : World) (X : Obj), w2.grownBy (setBlock w2 b X) (some b) := fun w2 X => ⟨rfl, rfl, rfl, by simp [setBlock], fun i _ hi => heap_setBlock_other' w2 b X i (fun e => hi (by rw [e]))⟩
  refine ⟨v0, goInt st, _, hr, ⟨by simpa [setBlock] using (Array.getElem?_eq_some_iff.1 hb).1, fun w2 u he => ?_⟩, gset _ _⟩
  have he1 : w2.heap[b]? = some (.map es1 clock1) := by rw [he]; exact heap_setBlock_same' w b _ hb
  obtain ⟨es', clock', r1, r2⟩ := hst w2 u he1
  obtain ⟨w', hru, q1, q2⟩ := h1'.update K ht hn (val := u) hkey (d := .held u) (ps := []) rfl
  rw [r2] at hru
  cases hru
  refine ⟨_, r1, ?_, gset _ _⟩
  refine MapS.block ⟨_, q1, MapS.put_at h1'.isMap h2 (L s) u⟩ ?_
  rw [heap_setBlock_same' w2 b _ he1, heap_setBlock_same' w b _ hb]
theorem step_entry (hg : o.guard = none) (m x : Operand) (hop : o.op = Op.mapEntry T m x) (ht : Tryz.prog.underlying T = some (.map 9 e)) {z : Value} (hz : ∀ u, (zeroValue e).run Tryz.prog u = .ok z u)
    (hown : MapS w b n f) (hn : n < maxLen) (s : ByteArray) (hm : a.eval m = .map (some b)) (hx : a.eval x = .string s) (hs : s.size ≤ maxLen)
    (h : ∀ v0 st w', MapE w' T b n s st f → w.grownBy w' (some b) → K (a.put o.dst (.tuple #[v0, st])) w') :
    if Region.wanted o (yielded ops a.tmps) = true then Oper.wp Tryz.prog o a w K Q else E := by
  have hw : Region.wanted o (yielded ops a.tmps) = true := by simp [Region.wanted, hg]
  rw [if_pos hw]
  obtain ⟨v0, st, w', hr, h1, h2⟩ := hown.entry ht hz hn s hs
  unfold Oper.wp
  simp [execOp, hop, hm, hx, hr, Result.andThen]
  exact h _ _ _ h1 h2
theorem step_estore (hg : o.guard = none) (m st x : Operand) (hop : o.op = Op.entryStore T m st x) {s : ByteArray} {sv : Value} (hown : MapE w T b n s sv f) (u : Value) (hm : a.eval m = .map (some b)) (hst : a.eval st = sv) (hx : a.eval x = u)
    (h : ∀ w', MapS w' b (n + 1) (fun t => if t = L s then some u else f t) → w.grownBy w' (some b) → K (a.put o.dst undef) w') :
    if Region.wanted o (yielded ops a.tmps) = true then Oper.wp Tryz.prog o a w K Q else E := by
  have hw : Region.wanted o (yielded ops a.tmps) = true := by simp [Region.wanted, hg]
  rw [if_pos hw]
  obtain ⟨w3, hr, h1, h2⟩ := hown.2 w u rfl
  unfold Oper.wp
  simp [execOp, hop, hm, hst, hx, hr, Result.andThen]
  exact h _ h1 h2
end
end Go.Proofs.YtjeinpadcknfbaaGreatDoor
/-
  A shell's variables, plain: a map and a list that hold the same; the environment, collected in whatever order.
-/
namespace Go.Proofs.YtjeinpadcknfbaaGreatDoor
open Go.RowKit

/-- A variable, as a value. -/
def VX (x : Xd) : Value := .agg #[.string ⟨x.text.toArray⟩, .bool x.set, .bool x.exp, .bool x.fix]
/-- The map holds what the list holds. -/
def MRel (m : Nm → Option Value) (l : List (Nm × Xd)) : Prop := ∀ t, (m t = none ∧ find l t = d0) ∨ m t = some (VX (find l t))
theorem MRel.nil : MRel (fun _ => none) [] := fun _ => .inl ⟨rfl, rfl⟩
theorem MRel.put {m : Nm → Option Value} {l : List (Nm × Xd)} (h : MRel m l) (k : Nm) (x : Xd) : MRel (fun t => if t = k then some (VX x) else m t) (putL l k x) := by
  intro t
  rw [find_putL]
  by_cases e : t = k
  · rw [if_pos e]; exact .inr (if_pos e)
  · rw [if_neg e]
    show ((if t = k then some (VX x) else m t) = none ∧ _) ∨ (if t = k then some (VX x) else m t) = _
    rw [if_neg e]
    exact h t
theorem MRel.drop {m : Nm → Option Value} {l : List (Nm × Xd)} (h : MRel m l) (k : Nm) : MRel (fun t => if t = k then none else m t) (putL l k d0) := by
  intro t
  rw [find_putL]
  by_cases e : t = k
  · rw [if_pos e]; exact .inl ⟨if_pos e, rfl⟩
  · rw [if_neg e]
    show ((if t = k then none else m t) = none ∧ _) ∨ (if t = k then none else m t) = _
    rw [if_neg e]
    exact h t
theorem MRel.get {m : Nm → Option Value} {l : List (Nm × Xd)} (h : MRel m l) (k : Nm) : (m k).getD (VX d0) = VX (find l k) := by
  rcases h k with ⟨h1, h2⟩ | h1
  · rw [h1, h2]; rfl
  · rw [h1]; rfl
/-- What the environment's loop has collected. -/
def EnvTo (l : List (Nm × Xd)) (left : Nm → Bool) (es : List (Nm × Nm)) : Prop :=
  (es.Pairwise fun p q => p.1 ≠ q.1) ∧ ∀ p, p ∈ es ↔ (inEnv (find l p.1) = true ∧ (find l p.1).text = p.2 ∧ left p.1 = false)
theorem EnvTo.start {m : Nm → Option Value} {l : List (Nm × Xd)} (h : MRel m l) : EnvTo l (fun t => (m t).isSome) [] := by
  refine ⟨List.Pairwise.nil, fun p => ⟨fun hp => by simp at hp, fun ⟨h1, _, h3⟩ => ?_⟩⟩
  rcases h p.1 with ⟨_, h5⟩ | h4
  · rw [h5] at h1; cases h1
  · simp [h4] at h3
theorem EnvTo.out {l : List (Nm × Xd)} {left : Nm → Bool} {es : List (Nm × Nm)} (h : EnvTo l left es) {k : Nm} (hk : inEnv (find l k) = false) : EnvTo l (fun t => left t && !decide (t = k)) es := by
  refine ⟨h.1, fun p => (h.2 p).trans ⟨fun ⟨h1, h2, h3⟩ => ⟨h1, h2, by simp [h3]⟩, fun ⟨h1, h2, h3⟩ => ⟨h1, h2, ?_⟩⟩⟩
  by_cases e : p.1 = k
  · rw [e, hk] at h1; cases h1
  · simpa [e] using h3
theorem EnvTo.snoc {l : List (Nm × Xd)} {left : Nm → Bool} {es : List (Nm × Nm)} (h : EnvTo l left es) {k : Nm} (hl : left k = true) (hk : inEnv (find l k) = true) : EnvTo l (fun t => left t && !decide (t = k)) (es ++ [(k, (find l k).text)]) := by
  refine ⟨List.pairwise_append.2 ⟨h.1, by simp, fun p hp q hq e => ?_⟩, fun p => ?_⟩
  · simp only [List.mem_singleton] at hq
    subst hq
    have := ((h.2 p).1 hp).2.2
    rw [e, hl] at this
    cases this
  · rw [List.mem_append, h.2 p, List.mem_singleton]
    constructor
    · rintro (⟨h1, h2, h3⟩ | rfl)
      · exact ⟨h1, h2, by simp [h3]⟩
      · exact ⟨hk, rfl, by simp⟩
    · rintro ⟨h1, h2, h3⟩
      by_cases e : p.1 = k
      · exact .inr (Prod.ext e (by rw [← h2, e]))
      · exact .inl ⟨h1, h2, by simpa [e] using h3⟩
theorem EnvTo.done {l : List (Nm × Xd)} {left : Nm → Bool} {es : List (Nm × Nm)} (h : EnvTo l left es) (hl : Rising l) (hd : ∀ t, left t = false) : ∀ p, p ∈ es ↔ p ∈ envR l := fun p => by
  rw [h.2 p, env_mem hl]
  exact ⟨fun ⟨h1, h2, _⟩ => ⟨h1, h2⟩, fun ⟨h1, h2⟩ => ⟨h1, h2, hd _⟩⟩
/-- The names are names. -/
def NoEq (l : List (Nm × Xd)) : Prop := ∀ p ∈ l, 61 ∉ p.1
theorem NoEq.put {l : List (Nm × Xd)} (h : NoEq l) {k : Nm} (hk : 61 ∉ k) (x : Xd) : NoEq (putL l k x) := by
  intro p hp
  rw [putL, List.mem_append, List.mem_cons] at hp
  rcases hp with hp | rfl | hp
  · exact h p (List.mem_filter.1 hp).1
  · exact hk
  · exact h p (List.mem_filter.1 hp).1
theorem EnvTo.names {l : List (Nm × Xd)} {left : Nm → Bool} {es : List (Nm × Nm)} (h : EnvTo l left es) (hn : NoEq l) : ∀ p ∈ es, 61 ∉ p.1 := fun p hp => by
  have h1 := ((h.2 p).1 hp).1
  exact hn _ (find_mem (l := l) (k := p.1) fun e => by rw [e] at h1; cases h1)
end Go.Proofs.YtjeinpadcknfbaaGreatDoor
/-
  Bytes that are alike, or not, as a walk spells it.
-/
namespace Go.Proofs.YtjeinpadcknfbaaGreatDoor
theorem eq_byte {c d : UInt8} (h : c = d) : (((c.toNat : Nat) : Int) == ((d.toNat : Nat) : Int)) = true := by rw [h]; simp
theorem ne_byte {c d : UInt8} (h : c ≠ d) : (((c.toNat : Nat) : Int) == ((d.toNat : Nat) : Int)) = false := by
  rw [beq_eq_false_iff_ne]
  intro e
  exact h (UInt8.toNat_inj.1 (by omega))
end Go.Proofs.YtjeinpadcknfbaaGreatDoor
/-
  Strings and their bytes: more small laws.
-/
namespace Go.Proofs.YtjeinpadcknfbaaGreatDoor
open Go.RowKit

theorem isEmpty_L (s : ByteArray) : s.toList.isEmpty = (L s).isEmpty := by rw [toList_L]
theorem toList_S (l : List UInt8) : (S l).toList = l := by rw [toList_L, L_S]
theorem S_extract (s : ByteArray) (a b : Nat) : s.extract a b = S (((L s).drop a).take (b - a)) := by rw [← L_extract, S_L]
theorem S_extract_from (s : ByteArray) (a : Nat) : s.extract a s.size = S ((L s).drop a) := by
  rw [S_extract, List.take_of_length_le (by simp [L_size])]
theorem S_extract_to (s : ByteArray) (b : Nat) : s.extract 0 b = S ((L s).take b) := by rw [S_extract]; rfl
theorem extract_len (s : ByteArray) (a b : Nat) : (s.extract a b).size ≤ s.size := by rw [S_extract, S_size, List.length_take, List.length_drop, L_size]; omega

/-- Pieces of a string, as a region that draws wants them. -/
theorem run_sl {P : Program} {T : TypeId} (hT : P.underlying T = some .string) (s : ByteArray) (i j : Int) (a b : Nat) (hi : i = a) (hj : j = b) (h1 : a ≤ b) (h2 : b ≤ s.size) (w : World) :
    (Instr.slice T (.string s) (some (.int .i64 i)) (some (.int .i64 j)) none).run P w = .ok (.string (s.extract a b)) w := by
  subst hi hj
  rw [run_slice_string_if w T s .i64 .i64 _ _ hT, if_pos ⟨by omega, by omega⟩, if_pos ⟨by omega, by omega⟩]; rfl
theorem run_sl_from {P : Program} {T : TypeId} (hT : P.underlying T = some .string) (s : ByteArray) (i : Int) (a : Nat) (hi : i = a) (h1 : a ≤ s.size) (w : World) :
    (Instr.slice T (.string s) (some (.int .i64 i)) none none).run P w = .ok (.string (s.extract a s.size)) w := by
  subst hi
  rw [run_slice_string_from_if w T s .i64 _ hT, if_pos ⟨by omega, by omega⟩]; rfl
theorem run_sl_to {P : Program} {T : TypeId} (hT : P.underlying T = some .string) (s : ByteArray) (j : Int) (b : Nat) (hj : j = b) (h2 : b ≤ s.size) (w : World) :
    (Instr.slice T (.string s) none (some (.int .i64 j)) none).run P w = .ok (.string (s.extract 0 b)) w := by
  subst hj
  rw [run_slice_string_to_if w T s .i64 _ hT, if_pos ⟨by omega, by omega⟩]; rfl
theorem wrap_in (x : Int) (h : -9223372036854775808 ≤ x ∧ x ≤ 9223372036854775807) : IntKind.i64.wrap x = x := by
  unfold IntKind.wrap
  simp [IntKind.bits, IntKind.signed]
  omega

end Go.Proofs.YtjeinpadcknfbaaGreatDoor
/-
  Bytes of scripts' texts: letters, digits, bytes that may stand without quotes, special signs; the walks.
-/
namespace Go.Proofs.YtjeinpadcknfbaaGreatDoor
open Go.RowKit

def lettB (c : UInt8) : Bool := (decide (97 ≤ c.toNat) && decide (c.toNat ≤ 122)) || (decide (65 ≤ c.toNat) && decide (c.toNat ≤ 90))
def digB (c : UInt8) : Bool := decide (48 ≤ c.toNat) && decide (c.toNat ≤ 57)
theorem bool_of {a b : Bool} {p : Prop} (h1 : a = true ↔ p) (h2 : b = true ↔ p) : a = b := by rw [Bool.eq_iff_iff, h1, h2]
theorem lettB_iff (c : UInt8) : lettB c = true ↔ (97 ≤ c.toNat ∧ c.toNat ≤ 122) ∨ (65 ≤ c.toNat ∧ c.toNat ≤ 90) := by simp [lettB]
theorem digB_iff (c : UInt8) : digB c = true ↔ 48 ≤ c.toNat ∧ c.toNat ≤ 57 := by simp [digB]

/-- One of a text's bytes. -/
def hasB (l : List UInt8) (c : UInt8) : Bool := l.contains c
theorem hasB_mem {l : List UInt8} {c : UInt8} : hasB l c = true ↔ c ∈ l := by rw [hasB, List.contains_iff_mem]
theorem getD_mem' {l : List UInt8} {i : Nat} (h : i < l.length) : l.getD i 0 ∈ l := by simp [List.getD, h]
theorem take_getD {l : List UInt8} {k : Nat} (h : k < l.length) : l.take (k + 1) = l.take k ++ [l.getD k 0] := by
  rw [List.take_add_one]
  simp [List.getD, List.getElem?_eq_getElem h]

end Go.Proofs.YtjeinpadcknfbaaGreatDoor
/-
  The walks of Bare, Special, Name: the program's, and the document's.
-/
namespace Go.Proofs.YtjeinpadcknfbaaGreatDoor
open Go.RowKit

def bareSigns : ByteArray := ⟨#[95, 46, 47, 44, 43, 45, 58, 64, 42, 63, 91, 93, 33, 94, 61, 126, 37]⟩
def specSigns : ByteArray := ⟨#[64, 42, 35, 63, 45, 36, 33]⟩
def bareB (c : UInt8) : Bool := lettB c || digB c || hasB (L bareSigns) c

theorem index_any (s : ByteArray) (c : UInt8) (w : World) :
    Calls Tryz.prog 46 #[.string s, .int .u8 ((c.toNat : Nat) : Int)] w fun e w' => (∃ n : Int, e = .returned (.int .i64 n) ∧ decide (0 ≤ n) = hasB (L s) c) ∧ w = w' :=
  (Tryz.strings_IndexByte s ((c.toNat : Nat) : Int) w).mono fun e w' ⟨h1, h2⟩ => ⟨⟨_, h1, by
    have := Lib.contains_iff_indexByte (L s) c
    have hc : ((c.toNat : Nat) : Int).toNat.toUInt8 = c := by simp
    rw [hc, hasB, this]
    exact decide_eq_decide.2 Iff.rfl⟩, h2.symm⟩

/-- A special sign. -/
def specB (l : List UInt8) : Bool := decide (l.length = 1) && hasB (L specSigns) (l.getD 0 0)
end Go.Proofs.YtjeinpadcknfbaaGreatDoor
/-
  The walks of Name and Number: the program's, and the document's.
-/
namespace Go.Proofs.YtjeinpadcknfbaaGreatDoor
open Go.RowKit

theorem u8lt (c : UInt8) : c.toNat < 256 := c.toNat_lt
/-- A byte of a name: the first one, or another. -/
def nmB (first : Bool) (c : UInt8) : Bool := lettB c || c == 95 || (!first && digB c)
def nameL (l : List UInt8) : Bool := !l.isEmpty && (List.range l.length).all fun i => nmB (i == 0) (l.getD i 0)
def nmTo (l : List UInt8) (k : Nat) : Prop := ∀ i, i < k → nmB (i == 0) (l.getD i 0) = true
theorem nmTo_succ {l : List UInt8} {k : Nat} (h : nmTo l k) (hc : nmB (k == 0) (l.getD k 0) = true) : nmTo l (k + 1) := fun i hi => by
  by_cases h1 : i < k
  · exact h i h1
  · obtain rfl : i = k := by omega
    exact hc
theorem name_no {l : List UInt8} {k : Nat} (hk : k < l.length) (hc : nmB (k == 0) (l.getD k 0) = false) : nameL l = false := by
  rw [nameL, Bool.and_eq_false_iff]
  right
  rw [List.all_eq_false]
  exact ⟨k, List.mem_range.2 hk, by rw [hc]; decide⟩
theorem name_yes {l : List UInt8} (h : nmTo l l.length) : nameL l = !l.isEmpty := by
  rw [nameL, List.all_eq_true.2 (fun i hi => h i (List.mem_range.1 hi)), Bool.and_true]

end Go.Proofs.YtjeinpadcknfbaaGreatDoor
/-
  The walk of the program's Name.
-/
namespace Go.Proofs.YtjeinpadcknfbaaGreatDoor
open Go.RowKit

theorem nmB_iff (first : Bool) (c : UInt8) : nmB first c = true ↔ ((97 ≤ c.toNat ∧ c.toNat ≤ 122) ∨ (65 ≤ c.toNat ∧ c.toNat ≤ 90)) ∨ c.toNat = 95 ∨ (first = false ∧ 48 ≤ c.toNat ∧ c.toNat ≤ 57) := by
  have e : (c == 95) = true ↔ c.toNat = 95 := by
    rw [beq_iff_eq]
    exact ⟨fun h => by rw [h]; rfl, fun h => UInt8.toNat_inj.1 h⟩
  rw [nmB, Bool.or_eq_true, Bool.or_eq_true, lettB_iff, e, Bool.and_eq_true, digB_iff, or_assoc]
  cases first <;> simp

set_option maxHeartbeats 1000000 in
theorem name_any (s : ByteArray) (w : World) (hs : s.size ≤ maxLen) :
    Calls Tryz.prog 15 #[.string s] w fun e w' => e = .returned (.bool (nameL (L s))) ∧ Below w.heap.size w w' := by
  unfold maxLen at hs
  have HM := Lib.hid (BytesAt.made w 5 s)
  have HB := Lib.hid (below_bytesWorld w 5 s)
  obtain ⟨wb, hwb⟩ : ∃ wb, wb = Lib.bytesWorld w 5 s := ⟨_, rfl⟩
  rw [← hwb] at HM HB
  have HWB := Lib.hid hwb
  clear hwb
  go_enter Tryz.func15, Tryz.ntmps15
  go_wp2_with fail
  rw [← HWB.out]
  go_loopw [8] (fun i wr => ∃ k : Nat, k ≤ s.size ∧ i = .int .i64 k ∧ nmTo (L s) k ∧ wr = wb) (fun i _ => s.size - (intOf i).toNat)
  case atStart => exact ⟨0, Nat.zero_le _, rfl, fun i hi => by omega, rfl⟩
  case round =>
    obtain ⟨k, hk, rfl, hnm, rfl⟩ := hrel
    have HNM := Lib.hid hnm
    clear hnm
    by_cases hlt : k < s.size
    · have hcell := (HM.out k hlt).1
      obtain ⟨r, hr⟩ : ∃ r, r = nmB (k == 0) ((L s).getD k 0) := ⟨_, rfl⟩
      have HRR := Lib.hid hr
      obtain ⟨c, hc⟩ : ∃ c, c = (L s).getD k 0 := ⟨_, rfl⟩
      rw [← hc] at hcell hr
      have hiff := nmB_iff (k == 0) c
      rw [← hr] at hiff
      obtain ⟨v, hv⟩ : ∃ v, v = c.toNat := ⟨_, rfl⟩
      rw [← hv] at hcell hiff
      clear hc hr hv
      obtain ⟨z, hz⟩ : ∃ z, z = (k == 0) := ⟨_, rfl⟩
      rw [← hz] at hiff
      have hcls : v < 48 ∨ (48 ≤ v ∧ v ≤ 57) ∨ (58 ≤ v ∧ v ≤ 64) ∨ (65 ≤ v ∧ v ≤ 90) ∨ (91 ≤ v ∧ v ≤ 94) ∨ v = 95 ∨ v = 96 ∨ (97 ≤ v ∧ v ≤ 122) ∨ 123 ≤ v := by omega
      by_cases hk0 : k = 0
      · obtain rfl : z = true := by rw [hz, hk0]; rfl
        have hkg : ((k : Int) == 0) = true := by rw [hk0]; rfl
        have hit : r = true ↔ ((97 ≤ v ∧ v ≤ 122) ∨ (65 ≤ v ∧ v ≤ 90)) ∨ v = 95 := by rw [hiff]; simp
        clear hz hk0 hiff
        rcases hcls with h | ⟨h, h'⟩ | ⟨h, h'⟩ | ⟨h, h'⟩ | ⟨h, h'⟩ | h | h | ⟨h, h'⟩ | h
        all_goals
          first
            | (have e95 : (((v : Nat) : Int) != 95) = true := by rw [bne_iff_ne]; omega)
            | (have e95 : (((v : Nat) : Int) != 95) = false := by rw [bne_eq_false_iff_eq]; omega)
          first
            | (have HR : Hid (r = true) := Lib.hid (hit.2 (by omega)))
            | (have HR : Hid (r = false) := Lib.hid ((Bool.eq_false_or_eq_true r).elim (fun e => absurd (hit.1 e) (by omega)) id))
          clear hit
          go_wp2
          first
            | (go_ret
               exact ⟨ret_bool (name_no (l := L s) hlt (HRR.out.symm.trans HR.out)).symm, HB.out⟩)
            | (go_roundw
               case rel => exact ⟨k + 1, by omega, by go_num, nmTo_succ HNM.out (HRR.out.symm.trans HR.out), by first | trivial | rfl⟩
               case measure => simp [intOf]; omega)
      · obtain rfl : z = false := by rw [hz]; simpa using hk0
        have hkg : ((k : Int) == 0) = false := by rw [beq_eq_false_iff_ne]; omega
        have hit : r = true ↔ ((97 ≤ v ∧ v ≤ 122) ∨ (65 ≤ v ∧ v ≤ 90)) ∨ v = 95 ∨ (48 ≤ v ∧ v ≤ 57) := by rw [hiff]; simp
        clear hz hk0 hiff
        rcases hcls with h | ⟨h, h'⟩ | ⟨h, h'⟩ | ⟨h, h'⟩ | ⟨h, h'⟩ | h | h | ⟨h, h'⟩ | h
        all_goals
          first
            | (have e95 : (((v : Nat) : Int) != 95) = true := by rw [bne_iff_ne]; omega)
            | (have e95 : (((v : Nat) : Int) != 95) = false := by rw [bne_eq_false_iff_eq]; omega)
          first
            | (have HR : Hid (r = true) := Lib.hid (hit.2 (by omega)))
            | (have HR : Hid (r = false) := Lib.hid ((Bool.eq_false_or_eq_true r).elim (fun e => absurd (hit.1 e) (by omega)) id))
          clear hit
          go_wp2
          first
            | (go_ret
               exact ⟨ret_bool (name_no (l := L s) hlt (HRR.out.symm.trans HR.out)).symm, HB.out⟩)
            | (go_roundw
               case rel => exact ⟨k + 1, by omega, by go_num, nmTo_succ HNM.out (HRR.out.symm.trans HR.out), by first | trivial | rfl⟩
               case measure => simp [intOf]; omega)
    · have HR : Hid (nameL (L s) = !(L s).isEmpty) := Lib.hid (name_yes (by rw [L_size]; exact fun i hi => HNM.out i (by omega)))
      cases he : (L s).isEmpty with
      | true =>
        have e1 : s.toList.isEmpty = true := by rw [isEmpty_L]; exact he
        rw [he] at HR
        clear he
        go_wp2
        go_ret
        exact ⟨ret_bool HR.out.symm, HB.out⟩
      | false =>
        have e1 : s.toList.isEmpty = false := by rw [isEmpty_L]; exact he
        rw [he] at HR
        clear he
        go_wp2
        go_ret
        exact ⟨ret_bool HR.out.symm, HB.out⟩
end Go.Proofs.YtjeinpadcknfbaaGreatDoor
/-
  The walks of Number: the program's, and the document's.
-/
namespace Go.Proofs.YtjeinpadcknfbaaGreatDoor
open Go.RowKit

def digsTo (l : List UInt8) (k : Nat) : Prop := ∀ i, i < k → digB (l.getD i 0) = true
theorem digsTo_succ {l : List UInt8} {k : Nat} (h : digsTo l k) (hc : digB (l.getD k 0) = true) : digsTo l (k + 1) := fun i hi => by
  by_cases h1 : i < k
  · exact h i h1
  · obtain rfl : i = k := by omega
    exact hc
def digsB (l : List UInt8) : Bool := (List.range l.length).all fun i => digB (l.getD i 0)
theorem digs_no {l : List UInt8} {k : Nat} (hk : k < l.length) (hc : digB (l.getD k 0) = false) : digsB l = false := by
  rw [digsB, List.all_eq_false]
  exact ⟨k, List.mem_range.2 hk, by rw [hc]; decide⟩
theorem digs_yes {l : List UInt8} (h : digsTo l l.length) : digsB l = true := List.all_eq_true.2 (fun i hi => h i (List.mem_range.1 hi))
/-- A positional parameter's number. -/
def numB (l : List UInt8) : Bool := digsB l && (l == [48] || (!l.isEmpty && (l.getD 0 0 != 48 && decide (l.length ≤ 4))))
theorem num_no {l : List UInt8} {k : Nat} (hk : k < l.length) (hc : digB (l.getD k 0) = false) : numB l = false := by rw [numB, digs_no hk hc, Bool.false_and]
theorem num_yes {l : List UInt8} (h : digsTo l l.length) : numB l = (l == [48] || (!l.isEmpty && (l.getD 0 0 != 48 && decide (l.length ≤ 4)))) := by rw [numB, digs_yes h, Bool.true_and]

set_option maxHeartbeats 1000000 in
theorem number_any (s : ByteArray) (w : World) (hs : s.size ≤ maxLen) :
    Calls Tryz.prog 78 #[.string s] w fun e w' => e = .returned (.bool (numB (L s))) ∧ Below w.heap.size w w' := by
  unfold maxLen at hs
  have HM := Lib.hid (BytesAt.made w 5 s)
  have HB := Lib.hid (below_bytesWorld w 5 s)
  obtain ⟨wb, hwb⟩ : ∃ wb, wb = Lib.bytesWorld w 5 s := ⟨_, rfl⟩
  rw [← hwb] at HM HB
  have HWB := Lib.hid hwb
  clear hwb
  go_enter Tryz.func78, Tryz.ntmps78
  go_wp2_with fail
  rw [← HWB.out]
  go_loopw [8] (fun i wr => ∃ k : Nat, k ≤ s.size ∧ i = .int .i64 k ∧ digsTo (L s) k ∧ wr = wb) (fun i _ => s.size - (intOf i).toNat)
  case atStart => exact ⟨0, Nat.zero_le _, rfl, fun i hi => by omega, rfl⟩
  case round =>
    obtain ⟨k, hk, rfl, hnm, rfl⟩ := hrel
    have HNM := Lib.hid hnm
    clear hnm
    by_cases hlt : k < s.size
    · have hcell := (HM.out k hlt).1
      obtain ⟨r, hr⟩ : ∃ r, r = digB ((L s).getD k 0) := ⟨_, rfl⟩
      have HRR := Lib.hid hr
      obtain ⟨c, hc⟩ : ∃ c, c = (L s).getD k 0 := ⟨_, rfl⟩
      rw [← hc] at hcell hr
      have hit := digB_iff c
      rw [← hr] at hit
      obtain ⟨v, hv⟩ : ∃ v, v = c.toNat := ⟨_, rfl⟩
      rw [← hv] at hcell hit
      clear hc hr hv
      have hcls : v < 48 ∨ (48 ≤ v ∧ v ≤ 57) ∨ 58 ≤ v := by omega
      rcases hcls with h | ⟨h, h'⟩ | h
      all_goals
        first
          | (have HR : Hid (r = true) := Lib.hid (hit.2 (by omega)))
          | (have HR : Hid (r = false) := Lib.hid ((Bool.eq_false_or_eq_true r).elim (fun e => absurd (hit.1 e) (by omega)) id))
        clear hit
        go_wp2
        first
          | (go_ret
             exact ⟨ret_bool (num_no (l := L s) hlt (HRR.out.symm.trans HR.out)).symm, HB.out⟩)
          | (go_roundw
             case rel => exact ⟨k + 1, by omega, by go_num, digsTo_succ HNM.out (HRR.out.symm.trans HR.out), by first | trivial | rfl⟩
             case measure => simp [intOf]; omega)
    · have HR := Lib.hid (num_yes (l := L s) (by rw [L_size]; exact fun i hi => HNM.out i (by omega)))
      obtain ⟨b0, h0⟩ : ∃ b, b = (L s == [48]) := ⟨_, rfl⟩
      have e0 : (s.toList == [48]) = b0 := by rw [h0, toList_L]
      rw [← h0] at HR
      obtain ⟨b1, h1⟩ : ∃ b, b = (L s).isEmpty := ⟨_, rfl⟩
      have e1 : s.toList.isEmpty = b1 := by rw [h1, toList_L]
      rw [← h1] at HR
      clear h0
      cases b0
      · cases b1
        · have hpos : 0 < s.size := by
            rw [← L_size]
            exact List.length_pos_iff.2 fun h => by rw [h] at h1; cases h1
          have i0 := run_idx (P := Tryz.prog) (k := .i64) Tryz.underlying9 s (0 : Int) 0 rfl hpos
          obtain ⟨c, hc⟩ : ∃ c, c = (L s).getD 0 0 := ⟨_, rfl⟩
          rw [← hc] at HR i0
          obtain ⟨b2, h2⟩ : ∃ b, b = (c != 48) := ⟨_, rfl⟩
          rw [← h2] at HR
          have e2 : (((c.toNat : Nat) : Int) != 48) = b2 := by
            rw [h2, Bool.eq_iff_iff, bne_iff_ne, bne_iff_ne]
            exact not_congr ⟨fun h => UInt8.toNat_inj.1 (by have : ((48 : UInt8).toNat : Int) = 48 := rfl; omega), fun h => by rw [h]; rfl⟩
          rw [L_size] at HR
          clear hc h1 h2
          cases b2
          · skip
            go_wp2
            go_ret
            exact ⟨ret_bool (by rw [HR.out]; simp <;> omega), HB.out⟩
          · by_cases h4 : s.size ≤ 4
            · rw [decide_eq_true h4] at HR
              go_wp2
              go_ret
              exact ⟨ret_bool (by rw [HR.out]; simp <;> omega), HB.out⟩
            · rw [decide_eq_false h4] at HR
              go_wp2
              go_ret
              exact ⟨ret_bool (by rw [HR.out]; simp <;> omega), HB.out⟩
        · clear h1
          go_wp2
          go_ret
          exact ⟨ret_bool (by rw [HR.out]; simp <;> omega), HB.out⟩
      · clear h1
        go_wp2
        go_ret
        exact ⟨ret_bool (by rw [HR.out]; simp <;> omega), HB.out⟩

end Go.Proofs.YtjeinpadcknfbaaGreatDoor
/-
  What a call on a Vars leaves as it was: whatever lies in other blocks than its own two. What a Vars holds.
-/
namespace Go.Proofs.YtjeinpadcknfbaaGreatDoor
open Go.RowKit

/-- Blocks g and mb may have turned, new ones have come; no other block has turned. -/
structure But (g mb : Nat) (w w' : World) : Prop where
  os : w'.os = w.os
  tape : w'.tape = w.tape
  output : w'.output = w.output
  size : w.heap.size ≤ w'.heap.size
  block : ∀ b, b < w.heap.size → b ≠ g → b ≠ mb → w'.heap[b]? = w.heap[b]?
section
variable {g mb : Nat} {a w w' : World}
theorem But.refl (g mb : Nat) (w : World) : But g mb w w := ⟨rfl, rfl, rfl, Nat.le_refl _, fun _ _ _ _ => rfl⟩
theorem But.trans (h : But g mb a w) (k : But g mb w w') : But g mb a w' :=
  ⟨k.os.trans h.os, k.tape.trans h.tape, k.output.trans h.output, Nat.le_trans h.size k.size, fun b hb h1 h2 => (k.block b (Nat.lt_of_lt_of_le hb h.size) h1 h2).trans (h.block b hb h1 h2)⟩
theorem But.of_below (h : Below w.heap.size w w') : But g mb w w' := ⟨h.os, h.tape, h.output, h.size, fun b hb _ _ => h.block b hb⟩
theorem But.on (h : But g mb a w) (k : Below w.heap.size w w') : But g mb a w' := h.trans (But.of_below k)
theorem But.below (h : But g mb w w') {B : Nat} (h1 : B ≤ g) (h2 : B ≤ mb) (hB : B ≤ w.heap.size) : Below B w w' :=
  ⟨h.os, h.tape, h.output, h.size, fun b hb => h.block b (by omega) (by omega) (by omega)⟩
theorem But.drewN (h : But g mb a w) (n : Nat) : But g mb a (w.drewN n) := h.on (below_drewN (Below.refl _ _) n)
theorem But.alloc (h : But g mb a w) (o : Obj) : But g mb a (w.alloc o) := h.on ((Below.refl _ _).alloc (Nat.le_refl _) o)
theorem But.setG (h : But g mb a w) (i : Nat) (u : Value) : But g mb a (w.setCell ⟨g, i, none⟩ u) :=
  have k := (Below.refl 0 w).setCell (p := ⟨g, i, none⟩) (Nat.zero_le _) u
  h.trans ⟨k.os, k.tape, k.output, k.size, fun b _ h1 _ => Below.heap_setCell _ _ _ _ h1⟩
theorem But.setNew (h : But g mb a w) {p : Addr} (hp : a.heap.size ≤ p.block) (u : Value) : But g mb a (w.setCell p u) :=
  ⟨h.os, h.tape, h.output, Nat.le_trans h.size (by simp [World.setCell]), fun q hq h1 h2 => (Below.heap_setCell _ _ _ _ (by omega)).trans (h.block q hq h1 h2)⟩
theorem But.grownM (h : But g mb a w) (hg : w.grownBy w' (some mb)) : But g mb a w' :=
  h.trans ⟨hg.os, hg.tape, hg.output, hg.size, fun b hb _ h2 => hg.block b hb (fun e => h2 (Option.some.inj e))⟩
theorem Blk.but {q : Nat} {t : TypeId} {cs : Array Value} (h : Blk w q t cs) (hb : But g mb w w') (h1 : q ≠ g) (h2 : q ≠ mb) : Blk w' q t cs := (hb.block q h.lt h1 h2).trans h
theorem own_but {base : Nat} {e : TypeId} {size : Nat} {v : Value} {n : Nat} {xs : List Value} (h : w.ownsRow base e size v n xs) (hb : But g mb w w') (h1 : v.ownBlock ≠ some g) (h2 : v.ownBlock ≠ some mb) : w'.ownsRow base e size v n xs := by
  obtain ⟨q1, q2⟩ := h
  refine ⟨q1, ?_⟩
  rcases q2 with q2 | ⟨b, cap, cur, r1, r2, r3, r4⟩
  · exact .inl q2
  · refine .inr ⟨b, cap, cur, r1, r2, ?_, r4⟩
    subst r1
    rw [hb.block b (Array.getElem?_eq_some_iff.1 r3).1 (fun e => h1 (by rw [e]; rfl)) (fun e => h2 (by rw [e]; rfl))]
    exact r3
theorem own_ge {base : Nat} {e : TypeId} {size : Nat} {v : Value} {n : Nat} {xs : List Value} (h : w.ownsRow base e size v n xs) {q : Nat} (hq : q < base) : v.ownBlock ≠ some q := own_ne h hq
theorem MapS.but {n q : Nat} {m : List UInt8 → Option Value} (h : MapS w q n m) (hb : But g mb w w') (h1 : q ≠ g) (h2 : q ≠ mb) : MapS w' q n m := h.block (hb.block q h.lt h1 h2)
theorem Elems.but {B : Nat} {p : Option Addr} {n : Nat} {xs : List Value} (h : Elems w B p n xs) (hb : But g mb w w') (h1 : B ≤ g) (h2 : B ≤ mb) (hB : B ≤ w.heap.size) : Elems w' B p n xs := h.below (hb.below h1 h2 hB)
end

/-- The names are names; nothing is long. -/
def Good (l : List (Nm × Xd)) : Prop := ∀ p ∈ l, nameL p.1 = true ∧ p.1.length ≤ 1048576 ∧ p.2.text.length ≤ 1048576
theorem Good.put {l : List (Nm × Xd)} (h : Good l) {k : Nm} {x : Xd} (hk : nameL k = true) (h1 : k.length ≤ 1048576) (h2 : x.text.length ≤ 1048576) : Good (putL l k x) := by
  intro p hp
  rw [putL, List.mem_append, List.mem_cons] at hp
  rcases hp with hp | rfl | hp
  · exact h p (List.mem_filter.1 hp).1
  · exact ⟨hk, h1, h2⟩
  · exact h p (List.mem_filter.1 hp).1
theorem Good.find {l : List (Nm × Xd)} (h : Good l) (k : Nm) : (find l k).text.length ≤ 1048576 := by
  by_cases e : Go.Proofs.YtjeinpadcknfbaaGreatDoor.find l k = d0
  · rw [e]; exact Nat.zero_le _
  · exact (h _ (find_mem e)).2.2
theorem nameL_noEq {k : Nm} (h : nameL k = true) : 61 ∉ k := by
  intro hm
  obtain ⟨i, hi, e⟩ := List.getElem_of_mem hm
  have hc : nmB (i == 0) (k.getD i 0) = false := by
    rw [List.getD_eq_getElem?_getD, List.getElem?_eq_getElem hi, e]
    cases (i == 0) <;> rfl
  rw [name_no hi hc] at h
  cases h
theorem Good.noEq {l : List (Nm × Xd)} (h : Good l) : NoEq l := fun p hp => nameL_noEq (h p hp).1

/-- The Vars at block g, its map in block mb (of at most n entries), its parameters' slice v: the variables l, the parameters xs, how the last command ended. All lies from lo on. -/
def VS (v : Value) (w : World) (lo g mb n : Nat) (l : List (Nm × Xd)) (xs : List ByteArray) (st : Int) : Prop :=
  ∃ m, (lo ≤ g ∧ lo ≤ mb ∧ mb ≠ g) ∧ (v.ownBlock ≠ some g ∧ v.ownBlock ≠ some mb) ∧ Blk w g 51 #[.map (some mb), .string ⟨#[115, 104]⟩, v, .int .i64 st] ∧ OwnS w lo v xs ∧ MapS w mb n m ∧ MRel m l ∧ Rising l ∧ Good l
def VSt (w : World) (lo g mb n : Nat) (l : List (Nm × Xd)) (xs : List ByteArray) (st : Int) : Prop := ∃ v, VS v w lo g mb n l xs st
section
variable {v : Value} {w w' : World} {lo g mb n : Nat} {l : List (Nm × Xd)} {xs : List ByteArray} {st : Int}
theorem VS.lt (h : VS v w lo g mb n l xs st) : g < w.heap.size ∧ mb < w.heap.size := by
  obtain ⟨m, _, _, h1, _, h2, _⟩ := h
  exact ⟨h1.lt, h2.lt⟩
theorem VS.ge (h : VS v w lo g mb n l xs st) : lo ≤ g ∧ lo ≤ mb ∧ mb ≠ g := by
  obtain ⟨m, h1, _⟩ := h
  exact h1
theorem VS.own_lt (h : VS v w lo g mb n l xs st) : ∀ b, v.ownBlock = some b → b < w.heap.size := by
  obtain ⟨m, _, _, _, h1, _⟩ := h
  exact fun b hb => (World.ownsRow.lt h1 b hb).2
theorem VS.below (h : VS v w lo g mb n l xs st) (hb : Below w.heap.size w w') : VS v w' lo g mb n l xs st := by
  obtain ⟨m, h1, h2, h3, h4, h5, h6⟩ := h
  exact ⟨m, h1, h2, h3.below hb h3.lt, h4.below hb, h5.below hb, h6⟩
/-- Another Vars turns, whose blocks are elder. -/
theorem VS.but {g' mb' : Nat} (h : VS v w lo g mb n l xs st) (hb : But g' mb' w w') (h1 : g' < lo) (h2 : mb' < lo) : VS v w' lo g mb n l xs st := by
  obtain ⟨m, q1, q2, q3, q4, q5, q6⟩ := h
  exact ⟨m, q1, q2, q3.but hb (by omega) (by omega), own_but q4 hb (own_ge q4 h1) (own_ge q4 h2), q5.but hb (by omega) (by omega), q6⟩
/-- A cell elsewhere turns. -/
theorem VS.far (h : VS v w lo g mb n l xs st) {p : Addr} (h1 : p.block ≠ g) (h2 : p.block ≠ mb) (h3 : v.ownBlock ≠ some p.block) (u : Value) : VS v (w.setCell p u) lo g mb n l xs st := by
  obtain ⟨m, q1, q2, q3, q4, q5, q6⟩ := h
  refine ⟨m, q1, q2, q3.far (Ne.symm h1) u, ?_, q5.set (Ne.symm h2) u, q6⟩
  obtain ⟨r1, r2⟩ := q4
  refine ⟨r1, ?_⟩
  rcases r2 with r2 | ⟨b, cap, cur, s1, s2, s3, s4⟩
  · exact .inl r2
  · refine .inr ⟨b, cap, cur, s1, s2, ?_, s4⟩
    subst s1
    rw [Below.heap_setCell _ _ _ _ (fun e => h3 (by rw [← e]; rfl))]
    exact s3
theorem VS.mono (h : VS v w lo g mb n l xs st) {n' : Nat} (hn : n ≤ n') : VS v w lo g mb n' l xs st := by
  obtain ⟨m, q1, q2, q3, q4, q5, q6⟩ := h
  exact ⟨m, q1, q2, q3, q4, q5.mono hn, q6⟩
theorem VSt.lt (h : VSt w lo g mb n l xs st) : g < w.heap.size ∧ mb < w.heap.size := by
  obtain ⟨v, h⟩ := h
  exact h.lt
theorem VSt.ge (h : VSt w lo g mb n l xs st) : lo ≤ g ∧ lo ≤ mb ∧ mb ≠ g := by
  obtain ⟨v, h⟩ := h
  exact h.ge
theorem VSt.below (h : VSt w lo g mb n l xs st) (hb : Below w.heap.size w w') : VSt w' lo g mb n l xs st := by
  obtain ⟨v, h⟩ := h
  exact ⟨v, h.below hb⟩
theorem VSt.but {g' mb' : Nat} (h : VSt w lo g mb n l xs st) (hb : But g' mb' w w') (h1 : g' < lo) (h2 : mb' < lo) : VSt w' lo g mb n l xs st := by
  obtain ⟨v, h⟩ := h
  exact ⟨v, h.but hb h1 h2⟩
theorem VSt.mono (h : VSt w lo g mb n l xs st) {n' : Nat} (hn : n ≤ n') : VSt w lo g mb n' l xs st := by
  obtain ⟨v, h⟩ := h
  exact ⟨v, h.mono hn⟩
theorem VSt.good (h : VSt w lo g mb n l xs st) : Rising l ∧ Good l := by
  obtain ⟨v, m, _, _, _, _, _, _, q⟩ := h
  exact q
end
end Go.Proofs.YtjeinpadcknfbaaGreatDoor
/-
  How the environment's sort tells two entries apart: the closure's walk.
-/
namespace Go.Proofs.YtjeinpadcknfbaaGreatDoor
open Go.RowKit

theorem cut_call (s : ByteArray) (w : World) (m : Int) (hs : s.size < 4294967281) (hm : w.cell? ⟨0, 0, none⟩ = some (.int .i64 m)) :
    Calls Tryz.prog 14 #[.string s, .string ⟨#[61]⟩] w fun e w' => e = .returned (.tuple #[.string ⟨(Lib.cut (L s) [61]).1.toArray⟩, .string ⟨(Lib.cut (L s) [61]).2.1.toArray⟩, .bool (Lib.cut (L s) [61]).2.2]) ∧ ∃ n, w' = w.drewN n :=
  Tryz.strings_Cut s ⟨#[61]⟩ m w hs hm

end Go.Proofs.YtjeinpadcknfbaaGreatDoor
namespace Go.Proofs.YtjeinpadcknfbaaGreatDoor
open Go.RowKit

/-- What an entry of an environment adds. -/
def addE (l : List (Nm × Xd)) (s : Nm) : List (Nm × Xd) :=
  if (Lib.cut s [61]).2.2 && nameL (Lib.cut s [61]).1 then putL l (Lib.cut s [61]).1 ⟨(Lib.cut s [61]).2.1, true, true, false⟩ else l
def newL (es : List Nm) : List (Nm × Xd) := es.foldl addE []
theorem newL_succ {es : List Nm} {k : Nat} {s : Nm} (h : es[k]? = some s) : newL (es.take (k + 1)) = addE (newL (es.take k)) s := by
  obtain ⟨hk, e⟩ := List.getElem?_eq_some_iff.1 h
  rw [newL, List.take_succ_eq_append_getElem hk, List.foldl_append, e]
  rfl
/-- An entry that a cut serves. -/
def Fine (s : Nm) : Prop := s.length ≤ 4294967280 ∧ (Lib.cut s [61]).1.length ≤ 1048576 ∧ (Lib.cut s [61]).2.1.length ≤ 1048576

theorem mpair {w : World} {mb n : Nat} {m : List UInt8 → Option Value} (h : MapS w mb n m) : mb < w.heap.size := h.lt

theorem mapzero (w : World) : (zeroValue 55).run Tryz.prog w = .ok (.agg #[.string ⟨#[]⟩, .bool false, .bool false, .bool false]) w := by kernel_rfl

set_option maxHeartbeats 4000000 in
theorem pnew_any (ae : Option Addr) (ne ce : Nat) (es : List ByteArray) (a : Option Addr) (n c : Nat) (ss : List ByteArray) (w : World) (B : Nat) (m0 : Int) (hE : Elems w B ae ne (es.map .string)) (h : Elems w B a n (ss.map .string)) (hB : B ≤ w.heap.size) (hn : n ≤ 1000) (hne : ne ≤ 1000)
    (hf : ∀ s ∈ es, Fine (L s)) (hm : w.cell? ⟨0, 0, none⟩ = some (.int .i64 m0)) (h0 : 0 < w.heap.size) :
    Calls Tryz.prog 7 #[.slice ae ne ce, .string ⟨#[115, 104]⟩, .slice a n c] w fun e w' => ∃ g mb, e = .returned (.pointer (some ⟨g, 0, none⟩)) ∧ VSt w' w.heap.size g mb ne (newL (es.map L)) ss 0 ∧ Below w.heap.size w w' := by
  have CC : Hid (∀ W, Below w.heap.size w W → Calls Tryz.prog 13 #[.slice a n c] W fun e w' => ∃ v', e = .returned v' ∧ OwnS w' W.heap.size v' ss ∧ Below W.heap.size W w') := Lib.hid fun W hW => clone_any a n c ss W B (h.below (hW.mono hB)) hn
  have hmm := @run_makeMap Tryz.prog
  have hel : es.length = ne := by simpa using hE.1
  obtain ⟨be, oe, re, _, ce'⟩ := hE.open 26 9 Tryz.underlying26 (by kernel_rfl)
  have HEL := Lib.hid hel
  have RE := Lib.hid re
  have CE : Hid (∀ W, Below w.heap.size w W → ∀ k, k < ne → ∀ x, es[k]? = some x → W.cell? ⟨be, oe + k, none⟩ = some (.string x)) := Lib.hid fun W hW k hk x hx => by
    have h1 := ce' k hk
    rw [List.getElem?_map, hx, Option.map_some] at h1
    exact (hW.cell (World.block_lt_of_cell? w _ h1)).trans h1
  have HF := Lib.hid hf
  have HM : Hid (∀ W, Below w.heap.size w W → W.cell? ⟨0, 0, none⟩ = some (.int .i64 m0)) := Lib.hid fun W hW => (hW.cell (p := ⟨0, 0, none⟩) h0).trans hm
  clear h hE hel re ce' hf hm
  go_enter Tryz.func7, Tryz.ntmps7
  go_wp2_with fail
  refine (CC.out _ (by go_grown)).mono ?_
  rintro e w1 ⟨v', rfl, ho, hb1⟩
  have HB1 : Hid (Below w.heap.size w w1) := Lib.hid ((Below.alloc (Below.refl _ _) (Nat.le_refl _) _).trans (hb1.mono (by simp)))
  have hs1 : w.heap.size < w1.heap.size := by have := hb1.size; simp at this; omega
  have HM1 : Hid (MapS w1 w.heap.size 0 (fun _ => none)) := Lib.hid ((MapS.made w).below hb1)
  have HO := Lib.hid ho
  obtain ⟨va, vc, rfl⟩ := own_shape ho
  clear ho hb1
  go_wp2_with fail
  go_loopw [21] (fun i wr => ∃ k : Nat, k ≤ ne ∧ i = .int .i64 k ∧ VSt wr w.heap.size w1.heap.size w.heap.size k (newL ((es.map L).take k)) ss 0 ∧ Below w.heap.size w wr) (fun i _ => ne - (intOf i).toNat)
  case atStart =>
    refine ⟨0, Nat.zero_le _, rfl, ⟨.slice va ss.length vc, _, ⟨Nat.le_of_lt hs1, Nat.le_refl _, by omega⟩, ⟨?_, ?_⟩, Blk.new w1 _ _, (HO.out.alloc _).from (by simp), HM1.out.alloc _, MRel.nil, List.Pairwise.nil, fun p hp => by cases hp⟩, HB1.out.alloc (Nat.le_of_lt hs1) _⟩
    · rcases HO.out.form with ⟨e0, _⟩ | ⟨q, cap, e0, hq, _⟩
      · rw [e0]; simp [Value.ownBlock]
      · intro e; rw [e0] at e; simp [Value.ownBlock] at e; omega
    · exact own_ge HO.out (by simp)
  case round =>
    obtain ⟨k, hk, rfl, hV, hbw⟩ := hrel
    by_cases hlt : k < ne
    · have hkl : k < es.length := by rw [HEL.out]; exact hlt
      obtain ⟨s, hx⟩ : ∃ x, es[k]? = some x := ⟨_, List.getElem?_eq_getElem hkl⟩
      have hfs := HF.out s (List.mem_of_getElem? hx)
      have hLk : (es.map L)[k]? = some (L s) := by rw [List.getElem?_map, hx]; rfl
      have HN := Lib.hid (newL_succ hLk)
      have d1 := CE.out wr hbw k hlt s hx
      have j1 := fun w' => RE.out k ce w' hlt
      have C1 := Lib.hid (cut_call s wr m0 (by have := hfs.1; rw [L_size] at this; omega) (HM.out wr hbw))
      obtain ⟨cn, hcn⟩ : ∃ x, (Lib.cut (L s) [61]).1 = x := ⟨_, rfl⟩
      obtain ⟨ct, hct⟩ : ∃ x, (Lib.cut (L s) [61]).2.1 = x := ⟨_, rfl⟩
      obtain ⟨ok, hok⟩ : ∃ x, (Lib.cut (L s) [61]).2.2 = x := ⟨_, rfl⟩
      have HL : Hid (addE (newL ((es.map L).take k)) (L s) = if ok && nameL cn then putL (newL ((es.map L).take k)) cn ⟨ct, true, true, false⟩ else newL ((es.map L).take k)) := Lib.hid (by rw [addE, hcn, hct, hok])
      rw [hcn, hct, hok] at C1
      have HFN : Hid (cn.length ≤ 1048576 ∧ ct.length ≤ 1048576) := Lib.hid ⟨hcn ▸ hfs.2.1, hct ▸ hfs.2.2⟩
      have CN : Hid (∀ W, Calls Tryz.prog 15 #[.string ⟨cn.toArray⟩] W fun e w' => e = .returned (.bool (nameL cn)) ∧ Below W.heap.size W w') := Lib.hid fun W => name_any (S cn) W (by unfold maxLen; rw [S_size]; have := HFN.out.1; omega)
      obtain ⟨isn, hisn⟩ : ∃ b, nameL cn = b := ⟨_, rfl⟩
      have HIS := Lib.hid hisn
      rw [hisn] at CN HL
      have HV := Lib.hid hV
      have HBW := Lib.hid hbw
      clear hx hfs hLk hcn hct hok hisn hV hbw
      cases ok with
      | false =>
        go_wp2_with fail
        refine C1.out.mono ?_
        rintro e w2 ⟨rfl, n2, rfl⟩
        go_wp2_with fail
        go_roundw
        case rel => exact ⟨k + 1, by omega, by go_num, by rw [HN.out, HL.out]; exact (HV.out.below (below_drewN (Below.refl _ _) n2)).mono (Nat.le_succ _), below_drewN HBW.out n2⟩
        case measure => simp [intOf]; omega
      | true =>
        cases isn with
        | false =>
          go_wp2_with fail
          refine C1.out.mono ?_
          rintro e w2 ⟨rfl, n2, rfl⟩
          go_wp2_with fail
          refine (CN.out _).mono ?_
          rintro e w3 ⟨rfl, hb3⟩
          have HB3 : Hid (Below wr.heap.size wr w3) := Lib.hid ((below_drewN (Below.refl _ _) n2).trans (by simpa using hb3))
          clear hb3
          go_wp2_with fail
          go_roundw
          case rel => exact ⟨k + 1, by omega, by go_num, by rw [HN.out, HL.out]; exact (HV.out.below HB3.out).mono (Nat.le_succ _), HBW.out.trans (HB3.out.mono HBW.out.size)⟩
          case measure => simp [intOf]; omega
        | true =>
          go_wp2_with fail
          refine C1.out.mono ?_
          rintro e w2 ⟨rfl, n2, rfl⟩
          go_wp2_with fail
          refine (CN.out _).mono ?_
          rintro e w3 ⟨rfl, hb3⟩
          have HB3 : Hid (Below wr.heap.size wr w3) := Lib.hid ((below_drewN (Below.refl _ _) n2).trans (by simpa using hb3))
          clear hb3
          obtain ⟨v3, f3, q1, q2, q3, q4, q5, q6, q7, q8⟩ := HV.out.below HB3.out
          have y0 := q3.cell 0
          simp at y0
          have Q5 := Lib.hid q5
          have QR := Lib.hid (And.intro q1 (And.intro q2 (And.intro q3 (And.intro q4 (And.intro q6 (And.intro q7 q8))))))
          have hcs : (⟨cn.toArray⟩ : ByteArray).size ≤ maxLen := by unfold maxLen; have := HFN.out.1; rw [show (⟨cn.toArray⟩ : ByteArray) = S cn from rfl, S_size]; omega
          clear q1 q2 q3 q4 q5 q6 q7 q8
          go_wp2_with (at_mapUpdate; refine wpList_put rfl _ _ _ _ rfl _ Tryz.underlying48 rfl Q5.out (by unfold maxLen; omega) _ (VX ⟨ct, true, true, false⟩) rfl rfl hcs ?_; intro w4 hm4 hg4)
          obtain ⟨q1, q2, q3, q4, q6, q7, q8⟩ := QR.out
          have HB4 : Hid (Below w.heap.size w w4) := Lib.hid ((HBW.out.trans (HB3.out.mono HBW.out.size)).grown hg4 (by have := HBW.out.size; have := HB3.out.size; omega) (fun j hj => by cases hj; exact Nat.le_refl _))
          have HV4 : Hid (VSt w4 w.heap.size w1.heap.size w.heap.size (k + 1) (newL ((es.map L).take (k + 1))) ss 0) := Lib.hid (by
            rw [HN.out, HL.out]
            exact ⟨v3, _, q1, q2, q3.grown hg4 (fun e => by have := Option.some.inj e; omega), World.ownsRow.kept q4 hg4 (.inr q2.2), hm4, q6.put cn ⟨ct, true, true, false⟩, put_rising q7 _ _, q8.put HIS.out HFN.out.1 HFN.out.2⟩)
          clear q1 q2 q3 q4 q6 q7 q8 hm4 hg4
          go_roundw
          case rel => exact ⟨k + 1, by omega, by go_num, HV4.out, HB4.out⟩
          case measure => simp [intOf]; omega
    · obtain rfl : k = ne := by omega
      have hLt : (es.map L).take k = es.map L := List.take_of_length_le (by rw [List.length_map, HEL.out]; exact Nat.le_refl _)
      rw [hLt] at hV
      go_wp2
      go_ret
      exact ⟨_, _, rfl, hV, hbw⟩
end Go.Proofs.YtjeinpadcknfbaaGreatDoor
