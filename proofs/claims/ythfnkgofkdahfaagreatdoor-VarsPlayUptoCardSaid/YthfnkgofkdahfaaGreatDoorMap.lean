/-
  A map from strings of the call's own, whatever its elements are: what it holds, exactly.
-/
import Derived.Test.YthfnkgofkdahfaaGreatDoorLib
import Derived.Maps.OwnSet
import Derived.WideKeyEntry
namespace Go.Proofs.YthfnkgofkdahfaaGreatDoor
open Go.RowKit Go.ChangeMaps

/-- An element reads as itself. -/
def RV (v : Value) : Option (DataW Value × List MemPlace) := some (.held v, [])

/-- The map in block b holds m; it has at most n entries. -/
def MapS (w : World) (b n : Nat) (m : List UInt8 → Option Value) : Prop :=
  ∃ D : DataW Value, w.ownsMap Tryz.prog 9 RV b n D ∧ ∀ (t : List UInt8) (z : DataW Value), D.atKey (.string t) z = match m t with | some v => .held v | none => z

section
variable {w w' : World} {b n : Nat} {m : List UInt8 → Option Value}
theorem MapS.lt (h : MapS w b n m) : b < w.heap.size := by
  obtain ⟨D, h1, _⟩ := h
  exact h1.lt
theorem MapS.below (h : MapS w b n m) (hb : Below w.heap.size w w') : MapS w' b n m := by
  obtain ⟨D, h1, h2⟩ := h
  refine ⟨D, ?_, h2⟩
  have hlt := h1.lt
  obtain ⟨es, clock, h0, F, hs, hD⟩ := h1
  exact ⟨es, clock, (hb.block b hlt).trans h0, F, hs, hD⟩
theorem MapS.block (h : MapS w b n m) (hb : w'.heap[b]? = w.heap[b]?) : MapS w' b n m := by
  obtain ⟨D, ⟨es, clock, h0, F, hs, hD⟩, h2⟩ := h
  exact ⟨D, ⟨es, clock, hb.trans h0, F, hs, hD⟩, h2⟩
theorem MapS.kept {row : Option Nat} (h : MapS w b n m) (hg : w.grownBy w' row) (hne : some b ≠ row) : MapS w' b n m := h.block (hg.block b h.lt hne)
theorem MapS.set (h : MapS w b n m) {p : Addr} (hp : b ≠ p.block) (u : Value) : MapS (w.setCell p u) b n m := h.block (Below.heap_setCell _ _ _ _ hp)
theorem MapS.alloc (h : MapS w b n m) (o : Obj) : MapS (w.alloc o) b n m := h.block (Below.heap_alloc w o b h.lt)
theorem MapS.mono (h : MapS w b n m) {n' : Nat} (hn : n ≤ n') : MapS w b n' m := by
  obtain ⟨D, h1, h2⟩ := h
  exact ⟨D, h1.mono hn, h2⟩
theorem MapS.made (w : World) : MapS (w.alloc (.map #[] 0)) w.heap.size 0 (fun _ => none) := ⟨_, World.ownsMap_made _ _ _ _, fun t z => by simp [DataW.atKey]⟩
theorem MapS.put_at {D : DataW Value} (h0 : Maps.IsMap D) (h2 : ∀ (t : List UInt8) (z : DataW Value), D.atKey (.string t) z = match m t with | some v => .held v | none => z) (s : List UInt8) (v : Value) :
    ∀ (t : List UInt8) (z : DataW Value), (D.put (.string s) (.held v)).atKey (.string t) z = match (if t = s then some v else m t) with | some v => .held v | none => z := by
  intro t z
  by_cases e : t = s
  · subst e
    rw [Maps.atKey_put_same h0 (by simp [WideAt.IsKeyLit]), if_pos rfl]
  · rw [Maps.atKey_put_other (by intro h'; injection h' with h'; exact e h'), if_neg e, h2 t]

theorem hasKey_of {D : DataW Value} (h2 : ∀ (t : List UInt8) (z : DataW Value), D.atKey (.string t) z = match m t with | some v => .held v | none => z) (t : List UInt8) : Maps.has D (.string t) = (m t).isSome := by
  cases hm : m t with
  | none => exact Maps.has_false_of_atKey fun z => by rw [h2 t z, hm]
  | some v => exact Maps.has_true_of_atKey fun z => by rw [h2 t z, hm]

/-- m[s] -/
theorem MapS.look (h : MapS w b n m) {T e : TypeId} (ht : Tryz.prog.underlying T = some (.map 9 e)) {z : Value} (hz : (zeroValue e).run Tryz.prog w = .ok z w) (s : ByteArray) (hs : s.size ≤ maxLen) :
    (Instr.lookup T (.map (some b)) (.string s) false).run Tryz.prog w = .ok ((m (L s)).getD z) w := by
  obtain ⟨D, h1, h2⟩ := h
  obtain ⟨v, ps, hr, hv⟩ := h1.lookup (t := T) (Maps.string_keyed Tryz.underlying9) ht hz (zd := .held z) (zp := []) rfl (WideMaps.keyOf_string_mk Tryz.underlying9 hs)
  have h3 := h2 (L s) (.held z)
  rw [hr]
  rw [L] at h3
  simp only [RV, Option.some.injEq, Prod.mk.injEq] at hv
  rw [h3] at hv
  rw [L]
  cases hm : m s.data.toList with
  | none => rw [hm] at hv; simp at hv; simp [hv]
  | some u => rw [hm] at hv; simp at hv; simp [hv]
/-- v, ok := m[s] -/
theorem MapS.look_ok (h : MapS w b n m) {T e : TypeId} (ht : Tryz.prog.underlying T = some (.map 9 e)) {z : Value} (hz : (zeroValue e).run Tryz.prog w = .ok z w) (s : ByteArray) (hs : s.size ≤ maxLen) :
    (Instr.lookup T (.map (some b)) (.string s) true).run Tryz.prog w = .ok (.tuple #[(m (L s)).getD z, .bool (m (L s)).isSome]) w := by
  obtain ⟨D, h1, h2⟩ := h
  obtain ⟨v, ps, hr, hv⟩ := h1.look_ok (t := T) (Maps.string_keyed Tryz.underlying9) ht hz (zd := .held z) (zp := []) rfl (WideMaps.keyOf_string_mk Tryz.underlying9 hs)
  have h3 := h2 (L s) (.held z)
  have h4 := hasKey_of h2 (L s)
  rw [L] at h3 h4
  rw [hr, h4]
  simp only [RV, Option.some.injEq, Prod.mk.injEq] at hv
  rw [h3] at hv
  rw [L]
  cases hm : m s.data.toList with
  | none => rw [hm] at hv; simp at hv; simp [hv]
  | some u => rw [hm] at hv; simp at hv; simp [hv]
end

theorem heap_setBlock_same' (w : World) (b : Nat) (X : Obj) {Y : Obj} (hb : w.heap[b]? = some Y) : (setBlock w b X).heap[b]? = some X := by
  have := (Array.getElem?_eq_some_iff.1 hb).1
  simp [setBlock, this]
theorem heap_setBlock_other' (w : World) (b : Nat) (X : Obj) (i : Nat) (h : i ≠ b) : (setBlock w b X).heap[i]? = w.heap[i]? := by
  simp [setBlock, Ne.symm h]

/-- m[s] = v, at the operation. -/
theorem wpList_put {w : World} {ops : Array Oper} {rest : List Oper} {o : Oper} {a : Act} {Q : Exit → Act → World → Prop} (hg : o.guard = none) (m x v : Operand) (T : TypeId) (hop : o.op = Op.mapUpdate T m x v) (e : TypeId) (ht : Tryz.prog.underlying T = some (.map 9 e))
    {b n : Nat} {f : List UInt8 → Option Value} (hm : a.eval m = .map (some b)) (hown : MapS w b n f) (hn : n < maxLen) (s : ByteArray) (u : Value) (hx : a.eval x = .string s) (hv : a.eval v = u) (hs : s.size ≤ maxLen)
    (hK : ∀ w', MapS w' b (n + 1) (fun t => if t = L s then some u else f t) → w.grownBy w' (some b) → wpList Tryz.prog ops Q rest (a.put o.dst undef) w') : wpList Tryz.prog ops Q (o :: rest) a w := by
  obtain ⟨D, h1, h2⟩ := hown
  exact wpList_mapUpdate_own w hg m x v T hop 9 e (Maps.string_keyed Tryz.underlying9) ht RV b n D hm h1 hn (.string s) u (.string (L s)) hx hv (WideMaps.keyOf_string_mk Tryz.underlying9 hs) (.held u) [] rfl fun w' h3 h4 =>
    hK w' ⟨_, h3, MapS.put_at h1.isMap h2 (L s) u⟩ h4

/-- m[s] = v, as an equation. -/
theorem MapS.put_run {w : World} {b n : Nat} {f : List UInt8 → Option Value} (hown : MapS w b n f) {T e : TypeId} (ht : Tryz.prog.underlying T = some (.map 9 e)) (hn : n < maxLen) (s : ByteArray) (u : Value) (hs : s.size ≤ maxLen) :
    ∃ w', (Instr.mapUpdate T (.map (some b)) (.string s) u).run Tryz.prog w = .ok () w' ∧ MapS w' b (n + 1) (fun t => if t = L s then some u else f t) ∧ w.grownBy w' (some b) := by
  obtain ⟨D, h1, h2⟩ := hown
  obtain ⟨w', hr, r1, r2⟩ := h1.update (Maps.string_keyed Tryz.underlying9) ht hn (val := u) (WideMaps.keyOf_string_mk Tryz.underlying9 hs) (d := .held u) (ps := []) rfl
  exact ⟨w', hr, ⟨_, r1, MapS.put_at h1.isMap h2 (L s) u⟩, r2⟩

/-! ### at a step of a region that draws its order -/
section
variable {w : World} {ops : Array Oper} {o : Oper} {a : Act} {K : Act → World → Prop} {Q : Exit → Act → World → Prop} {E : Prop} {T e : TypeId} {b n : Nat} {f : List UInt8 → Option Value}
theorem step_look (hg : o.guard = none) (m x : Operand) (hop : o.op = Op.lookup T m x false) (ht : Tryz.prog.underlying T = some (.map 9 e)) {z : Value} (hz : ∀ u, (zeroValue e).run Tryz.prog u = .ok z u)
    (hown : MapS w b n f) (s : ByteArray) (hm : a.eval m = .map (some b)) (hx : a.eval x = .string s) (hs : s.size ≤ maxLen) {v : Value} (hv : (f (L s)).getD z = v) (h : K (a.put o.dst v) w) :
    if Region.wanted o (yielded ops a.tmps) = true then Oper.wp Tryz.prog o a w K Q else E := by
  have hw : Region.wanted o (yielded ops a.tmps) = true := by simp [Region.wanted, hg]
  rw [if_pos hw]
  have hr := hown.look ht (hz w) s hs
  unfold Oper.wp
  simp [execOp, hop, hm, hx, hr, hv, Result.andThen]
  exact h
theorem step_look_ok (hg : o.guard = none) (m x : Operand) (hop : o.op = Op.lookup T m x true) (ht : Tryz.prog.underlying T = some (.map 9 e)) {z : Value} (hz : ∀ u, (zeroValue e).run Tryz.prog u = .ok z u)
    (hown : MapS w b n f) (s : ByteArray) (hm : a.eval m = .map (some b)) (hx : a.eval x = .string s) (hs : s.size ≤ maxLen) {v : Value} {ok : Bool} (hv : (f (L s)).getD z = v) (hok : (f (L s)).isSome = ok) (h : K (a.put o.dst (.tuple #[v, .bool ok])) w) :
    if Region.wanted o (yielded ops a.tmps) = true then Oper.wp Tryz.prog o a w K Q else E := by
  have hw : Region.wanted o (yielded ops a.tmps) = true := by simp [Region.wanted, hg]
  rw [if_pos hw]
  have hr := hown.look_ok ht (hz w) s hs
  unfold Oper.wp
  simp [execOp, hop, hm, hx, hr, hv, hok, Result.andThen]
  exact h
theorem step_put (hg : o.guard = none) (m x v : Operand) (hop : o.op = Op.mapUpdate T m x v) (ht : Tryz.prog.underlying T = some (.map 9 e))
    (hown : MapS w b n f) (hn : n < maxLen) (s : ByteArray) (u : Value) (hm : a.eval m = .map (some b)) (hx : a.eval x = .string s) (hv : a.eval v = u) (hs : s.size ≤ maxLen)
    (h : ∀ w', MapS w' b (n + 1) (fun t => if t = L s then some u else f t) → w.grownBy w' (some b) → K (a.put o.dst undef) w') :
    if Region.wanted o (yielded ops a.tmps) = true then Oper.wp Tryz.prog o a w K Q else E := by
  have hw : Region.wanted o (yielded ops a.tmps) = true := by simp [Region.wanted, hg]
  rw [if_pos hw]
  obtain ⟨D, h1, h2⟩ := hown
  obtain ⟨w', hr, r1, r2⟩ := h1.update (Maps.string_keyed Tryz.underlying9) ht hn (val := u) (WideMaps.keyOf_string_mk Tryz.underlying9 hs) (d := .held u) (ps := []) rfl
  unfold Oper.wp
  simp [execOp, hop, hm, hx, hv, hr, Result.andThen]
  exact h _ ⟨_, r1, MapS.put_at h1.isMap h2 (L s) u⟩ r2
/-- What m[s] = v, begun and not ended, may still do. -/
def MapE (w : World) (T : TypeId) (b n : Nat) (s : ByteArray) (st : Value) (f : List UInt8 → Option Value) : Prop :=
  b < w.heap.size ∧ ∀ (w2 : World) (u : Value), w2.heap[b]? = w.heap[b]? → ∃ w3, (Instr.entryStore T (.map (some b)) st u).run Tryz.prog w2 = .ok () w3 ∧ MapS w3 b (n + 1) (fun t => if t = L s then some u else f t) ∧ w2.grownBy w3 (some b)
theorem MapE.below {w w' : World} {s : ByteArray} {st : Value} (h : MapE w T b n s st f) (hb : Below w.heap.size w w') : MapE w' T b n s st f :=
  ⟨Nat.lt_of_lt_of_le h.1 hb.size, fun w2 u he => h.2 w2 u (he.trans (hb.block b h.1))⟩
theorem MapE.set {w : World} {s : ByteArray} {st : Value} (h : MapE w T b n s st f) {p : Addr} (hp : b ≠ p.block) (u : Value) : MapE (w.setCell p u) T b n s st f :=
  ⟨by simpa using h.1, fun w2 u' he => h.2 w2 u' (he.trans (Below.heap_setCell _ _ _ _ hp))⟩
theorem MapS.entry (hown : MapS w b n f) (ht : Tryz.prog.underlying T = some (.map 9 e)) {z : Value} (hz : ∀ u, (zeroValue e).run Tryz.prog u = .ok z u) (hn : n < maxLen) (s : ByteArray) (hs : s.size ≤ maxLen) :
    ∃ v0 st w', (Instr.mapEntry T (.map (some b)) (.string s)).run Tryz.prog w = .ok (.tuple #[v0, st]) w' ∧ MapE w' T b n s st f ∧ w.grownBy w' (some b) := by
  obtain ⟨D, h1, h2⟩ := hown
  have h1' := h1
  obtain ⟨es, clock, hb, F, hsz, hD⟩ := h1
  have hkey := WideMaps.keyOf_string_mk (P := Tryz.prog) (s := s) Tryz.underlying9 hs
  have K : Maps.Keyed Tryz.prog 9 := Maps.string_keyed Tryz.underlying9
  obtain ⟨v0, st, es1, clock1, hr, _, hst⟩ := WideElems.entry_then_store (WideMaps.string_law Tryz.underlying9) ht hz hb F hkey
  have gset : ∀ (w2 : World) (X : Obj), w2.grownBy (setBlock w2 b X) (some b) := fun w2 X => ⟨rfl, rfl, rfl, by simp [setBlock], fun i _ hi => heap_setBlock_other' w2 b X i (fun e => hi (by rw [e]))⟩
  refine ⟨v0, goInt st, _, hr, ⟨by simpa [setBlock] using (Array.getElem?_eq_some_iff.1 hb).1, fun w2 u he => ?_⟩, gset _ _⟩
  have he1 : w2.heap[b]? = some (.map es1 clock1) := by rw [he]; exact heap_setBlock_same' w b _ hb
  obtain ⟨es', clock', r1, r2⟩ := hst w2 u he1
  obtain ⟨w', hru, q1, q2⟩ := h1'.update K ht hn (val := u) hkey (d := .held u) (ps := []) rfl
  rw [r2] at hru
  cases hru
  refine ⟨_, r1, ?_, gset _ _⟩
  refine MapS.block ⟨_, q1, MapS.put_at h1'.isMap h2 (L s) u⟩ ?_
  rw [heap_setBlock_same' w2 b _ he1, heap_setBlock_same' w b _ hb]
theorem step_entry (hg : o.guard = none) (m x : Operand) (hop : o.op = Op.mapEntry T m x) (ht : Tryz.prog.underlying T = some (.map 9 e)) {z : Value} (hz : ∀ u, (zeroValue e).run Tryz.prog u = .ok z u)
    (hown : MapS w b n f) (hn : n < maxLen) (s : ByteArray) (hm : a.eval m = .map (some b)) (hx : a.eval x = .string s) (hs : s.size ≤ maxLen)
    (h : ∀ v0 st w', MapE w' T b n s st f → w.grownBy w' (some b) → K (a.put o.dst (.tuple #[v0, st])) w') :
    if Region.wanted o (yielded ops a.tmps) = true then Oper.wp Tryz.prog o a w K Q else E := by
  have hw : Region.wanted o (yielded ops a.tmps) = true := by simp [Region.wanted, hg]
  rw [if_pos hw]
  obtain ⟨v0, st, w', hr, h1, h2⟩ := hown.entry ht hz hn s hs
  unfold Oper.wp
  simp [execOp, hop, hm, hx, hr, Result.andThen]
  exact h _ _ _ h1 h2
theorem step_estore (hg : o.guard = none) (m st x : Operand) (hop : o.op = Op.entryStore T m st x) {s : ByteArray} {sv : Value} (hown : MapE w T b n s sv f) (u : Value) (hm : a.eval m = .map (some b)) (hst : a.eval st = sv) (hx : a.eval x = u)
    (h : ∀ w', MapS w' b (n + 1) (fun t => if t = L s then some u else f t) → w.grownBy w' (some b) → K (a.put o.dst undef) w') :
    if Region.wanted o (yielded ops a.tmps) = true then Oper.wp Tryz.prog o a w K Q else E := by
  have hw : Region.wanted o (yielded ops a.tmps) = true := by simp [Region.wanted, hg]
  rw [if_pos hw]
  obtain ⟨w3, hr, h1, h2⟩ := hown.2 w u rfl
  unfold Oper.wp
  simp [execOp, hop, hm, hst, hx, hr, Result.andThen]
  exact h _ h1 h2
end
end Go.Proofs.YthfnkgofkdahfaaGreatDoor
