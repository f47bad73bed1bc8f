/-
  Ranging over a map from strings; an entry taken away.
-/
import Derived.Test.YthfnkgofkdahfaaGreatDoorMap
import Derived.Maps.RangeWalk
import Derived.StringKeys
namespace Go.Proofs.YthfnkgofkdahfaaGreatDoor
open Go.RowKit Go.ChangeMaps

/-- A range over the map in block b is under way, its iterator in block r: what is left. -/
def MapR (w : World) (b r n : Nat) (m : List UInt8 → Option Value) (left : List UInt8 → Bool) (cnt : Nat) : Prop :=
  ∃ (D : DataW Value) (lf : Lit → Bool), w.ranges Tryz.prog 9 RV b r n D lf cnt ∧ (∀ (t : List UInt8) (z : DataW Value), D.atKey (.string t) z = match m t with | some v => .held v | none => z) ∧ ∀ t, left t = lf (.string t)
section
variable {w w' : World} {b r n cnt : Nat} {m : List UInt8 → Option Value} {left : List UInt8 → Bool}
theorem MapR.owns (h : MapR w b r n m left cnt) : MapS w b n m := by
  obtain ⟨D, lf, h1, h2, _⟩ := h
  exact ⟨D, h1.owns, h2⟩
theorem MapR.left_eq (h : MapR w b r n m left cnt) : w.rangeLeft b r = cnt := by
  obtain ⟨D, lf, h1, _⟩ := h
  exact h1.left_eq
theorem MapR.lt (h : MapR w b r n m left cnt) : r < w.heap.size := by
  obtain ⟨D, lf, h1, _⟩ := h
  exact h1.lt
theorem MapR.ne (h : MapR w b r n m left cnt) : r ≠ b := by
  obtain ⟨D, lf, h1, _⟩ := h
  exact h1.ne
theorem MapR.kept {row : Option Nat} (h : MapR w b r n m left cnt) (hg : w.grownBy w' row) (hb : some b ≠ row) (hr : some r ≠ row) : MapR w' b r n m left cnt := by
  obtain ⟨D, lf, h1, h2, h3⟩ := h
  exact ⟨D, lf, h1.kept hg hb hr, h2, h3⟩
theorem sameKey_str (s t : List UInt8) : (Lit.string t).sameKey (.string s) = decide (t = s) := by
  by_cases e : t = s
  · subst e
    rw [decide_eq_true rfl]
    exact WideAt.sameKey_self (by simp [WideAt.IsKeyLit])
  · rw [decide_eq_false e]
    cases hs : (Lit.string t).sameKey (.string s) with
    | false => rfl
    | true => exact absurd (Lit.string.inj (WideAt.sameKey_eq hs)) e

section
variable {ops : Array Oper} {rest : List Oper} {o : Oper} {a : Act} {Q : Exit → Act → World → Prop}
/-- range m -/
theorem wpList_range_s (hg : o.guard = none) (x : Operand) (T : TypeId) (hop : o.op = Op.range T x) {e : TypeId} (ht : Tryz.prog.underlying T = some (.map 9 e)) (hm : a.eval x = .map (some b)) (hown : MapS w b n m)
    (hK : ∀ w' cnt, MapR w' b w.heap.size n m (fun t => (m t).isSome) cnt → cnt ≤ n → w.grownBy w' none → w'.heap.size = w.heap.size + 1 → wpList Tryz.prog ops Q rest (a.put o.dst (.pointer (some ⟨w.heap.size, 0, none⟩))) w') :
    wpList Tryz.prog ops Q (o :: rest) a w := by
  obtain ⟨D, h1, h2⟩ := hown
  refine wpList_range_own w hg x T hop 9 e (Maps.string_keyed Tryz.underlying9) ht RV b n D hm h1 fun w' h3 h4 h5 => ?_
  exact hK w' _ ⟨D, _, h3, h2, fun t => (hasKey_of h2 t).symm⟩ h1.size_le h4 h5
/-- The step. -/
theorem wpList_next_s (hg : o.guard = none) (it : Operand) (hop : o.op = Op.next it false) (hit : a.eval it = .pointer (some ⟨r, 0, none⟩)) (h : MapR w b r n m left cnt)
    (hDone : cnt = 0 → (∀ t, left t = false) → wpList Tryz.prog ops Q rest (a.put o.dst (.tuple #[.bool false])) w)
    (hMore : ∀ (s : ByteArray) (u : Value) (w' : World) (cnt' : Nat), s.size ≤ maxLen → left (L s) = true → m (L s) = some u → MapR w' b r n m (fun t => left t && !decide (t = L s)) cnt' → cnt' < cnt →
      w.grownBy w' (some r) → w'.heap.size = w.heap.size → (Instr.entry (.pointer (some ⟨r, 0, none⟩))).run Tryz.prog w' = .ok (.tuple #[.string s, u]) w' → wpList Tryz.prog ops Q rest (a.put o.dst (.tuple #[.bool true, .string s, u])) w') :
    wpList Tryz.prog ops Q (o :: rest) a w := by
  obtain ⟨D, lf, h1, h2, h3⟩ := h
  refine wpList_next_ranges w hg it hop 9 (Maps.string_keyed Tryz.underlying9) RV Value.string id (fun key kl hk => ?_) (fun v y _ => ⟨v, rfl⟩) b r n D lf cnt hit h1 (fun h0 hl => hDone h0 fun t => by rw [h3, hl]) fun s u kl y w' cnt' hk hlk hR hat hrg hlt hgr hsz hen => ?_
  · obtain ⟨s, e, _⟩ := WideMaps.string_of_keyOf Tryz.underlying9 hk
    exact ⟨s, e⟩
  · obtain ⟨s', e1, e2, hz⟩ := WideMaps.string_of_keyOf Tryz.underlying9 hk
    cases e1
    subst e2
    have hu : m (L s) = some u := by
      have h4 := hat (.lit (.int .i64 0))
      simp only [RV, id_eq, Option.some.injEq] at hR
      rw [← hR] at h4
      have h5 := h2 (L s) (.lit (.int .i64 0))
      rw [L] at h5 ⊢
      rw [h4] at h5
      cases hm : m s.data.toList with
      | none => rw [hm] at h5; cases h5
      | some v => rw [hm] at h5; simp only [DataW.held.injEq] at h5; rw [h5]
    exact hMore s u w' cnt' hz (by rw [h3]; exact hlk) hu ⟨D, _, hrg, h2, fun t => by show (left t && !decide (t = L s)) = _; rw [h3, sameKey_str]; rfl⟩ hlt hgr hsz hen
end

/-- delete(m, s) -/
theorem MapS.drop (h : MapS w b n m) {T e : TypeId} (ht : Tryz.prog.underlying T = some (.map 9 e)) (s : ByteArray) (hs : s.size ≤ maxLen) (ty : TypeId) :
    ∃ w', (Builtin.delete_ #[T, 9] ty #[.map (some b), .string s]).run Tryz.prog w = .ok (.tuple #[]) w' ∧ MapS w' b n (fun t => if t = L s then none else m t) ∧ w.grownBy w' (some b) := by
  obtain ⟨D, h1, h2⟩ := h
  obtain ⟨w', hr, h3, h4⟩ := h1.drop (Maps.string_keyed Tryz.underlying9) ht (WideMaps.keyOf_string_mk Tryz.underlying9 hs) ty
  refine ⟨w', hr, ⟨_, h3, fun t z => ?_⟩, ?_⟩
  rotate_left
  · exact h4.grown
  show _ = match (if t = L s then none else m t) with | some v => DataW.held v | none => z
  by_cases e : t = L s
  · subst e
    rw [if_pos rfl]
    exact Maps.atKey_del_same z
  · rw [if_neg e, Maps.atKey_del_other (by intro h'; injection h' with h'; exact e h'), h2]
    cases m t <;> rfl
end
end Go.Proofs.YthfnkgofkdahfaaGreatDoor
