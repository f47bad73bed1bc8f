/-
  Plain: sums as trees; a row of numbers as a tree; what it is worth. How a tree lies in memory.
-/
import Derived.Test.YtpgneaekflhgnaaDoorA3
import Derived.Test.YtpgneaekflhgnaaDoorA8
namespace Go.Proofs.YtpgneaekflhgnaaDoor
open Go.RowKit

inductive ET where
  | num (n : Int)
  | join (o : Nat) (a b : ET)
def evalT : ET → Option Int
  | .num n => some n
  | .join o a b => combV apO o (evalT a) (evalT b)
/-- A row as a tree: parted at the last of the signs that bind least. -/
def rowT : Nat → Int → List Tok → ET
  | 0, n, _ => .num n
  | _ + 1, n, [] => .num n
  | f + 1, n, t :: l =>
    let k := lm (levs (t :: l)) (l.length + 1)
    .join (((t :: l).getD k (0, 0)).1) (rowT f n ((t :: l).take k)) (rowT f ((t :: l).getD k (0, 0)).2 ((t :: l).drop (k + 1)))
theorem evalT_row : ∀ (f : Nat) (n : Int) (l : List Tok), l.length < f → evalT (rowT f n l) = rowV apO f n l
  | 0, _, _, h => absurd h (by omega)
  | f + 1, n, [], _ => rfl
  | f + 1, n, t :: l, h => by
    have hk := lm_lt (levs (t :: l)) (l.length + 1) (by omega)
    simp only [List.length_cons] at h
    simp only [rowT, rowV, evalT]
    rw [evalT_row f n _ (by simp only [List.length_take, List.length_cons]; omega), evalT_row f _ _ (by simp only [List.length_drop, List.length_cons]; omega)]
def allI : ET → Prop
  | .num n => inI n
  | .join o a b => o < 18 ∧ allI a ∧ allI b
theorem truI_in (b : Bool) : inI (truI b) := by cases b <;> exact ⟨by decide, by decide⟩
theorem bits_in (op : BinOp) (a b : Int) : inI (bits op .i64 a b) ∨ True := .inr trivial
theorem i64_wrap_in (x : Int) : inI (IntKind.i64.wrap x) := by
  have : IntKind.i64.wrap x = wrap64 x := by simp [wrap64, IntKind.wrap_i64]
  rw [this]; exact wrap_inI x
theorem tmod_in {a b : Int} (ha : inI a) : inI (a.tmod b) := by
  obtain ⟨h1, h2⟩ := ha
  have h3 : (a.tmod b).natAbs = a.natAbs % b.natAbs := Int.natAbs_tmod a b
  have h4 : a.natAbs % b.natAbs ≤ a.natAbs := Nat.mod_le _ _
  by_cases hz : 0 ≤ a
  · have := Int.tmod_nonneg b hz
    exact ⟨by omega, by omega⟩
  · have h5 : (-a).tmod b = -(a.tmod b) := Int.neg_tmod a b
    have h6 : 0 ≤ (-a).tmod b := Int.tmod_nonneg b (by omega)
    exact ⟨by omega, by omega⟩
theorem ite_in {p : Prop} [Decidable p] {x y : Option Int} (hx : ∀ v, x = some v → inI v) (hy : ∀ v, y = some v → inI v) : ∀ v, (if p then x else y) = some v → inI v := by
  intro v h
  split at h
  · exact hx v h
  · exact hy v h
theorem some_in {x : Int} (hx : inI x) : ∀ v, some x = some v → inI v := fun v h => by
  injection h with h; subst h; exact hx
theorem apO_in {o : Nat} {a b v : Int} (ha : inI a) (h : apO o a b = some v) : inI v := by
  revert v
  show ∀ v, apO o a b = some v → inI v
  unfold apO
  refine ite_in (some_in (by unfold bits; exact i64_wrap_in _)) (ite_in (some_in (by unfold bits; exact i64_wrap_in _)) (ite_in (some_in (by unfold bits; exact i64_wrap_in _)) ?_))
  refine ite_in (some_in (truI_in _)) (ite_in (some_in (truI_in _)) (ite_in (some_in (truI_in _)) (ite_in (some_in (truI_in _)) (ite_in (some_in (truI_in _)) (ite_in (some_in (truI_in _)) ?_)))))
  refine ite_in (some_in (wrap_inI _)) (ite_in (some_in (by rw [← halN_eq]; exact halN_in ha _)) (ite_in (some_in (wrap_inI _)) (ite_in (some_in (wrap_inI _)) (ite_in (some_in (wrap_inI _)) ?_))))
  exact ite_in (fun v h => by cases h) (ite_in (some_in (wrap_inI _)) (some_in (tmod_in ha)))
theorem evalT_in : ∀ (t : ET) (v : Int), allI t → evalT t = some v → inI v
  | .num n, v, h, e => by
    injection e with e; subst e; exact h
  | .join o a b, v, h, e => by
    obtain ⟨_, ha, hb⟩ := h
    rw [evalT, combV] at e
    cases hx : evalT a with
    | none => rw [hx] at e; cases e
    | some x =>
      have hxi := evalT_in a x ha hx
      rw [hx] at e
      simp only [Option.bind_some] at e
      split at e
      · split at e
        · injection e with e; subst e; exact ⟨by decide, by decide⟩
        · cases hy : evalT b with
          | none => rw [hy] at e; cases e
          | some y => rw [hy] at e; injection e with e; subst e; exact truI_in _
      · split at e
        · split at e
          · injection e with e; subst e; exact ⟨by decide, by decide⟩
          · cases hy : evalT b with
            | none => rw [hy] at e; cases e
            | some y => rw [hy] at e; injection e with e; subst e; exact truI_in _
        · cases hy : evalT b with
          | none => rw [hy] at e; cases e
          | some y => rw [hy] at e; exact apO_in hxi e
theorem getD_mem {l : List Tok} {k : Nat} (hk : k < l.length) : l.getD k (0, 0) ∈ l := by
  simp [List.getD, List.getElem?_eq_getElem hk]
theorem allI_row : ∀ (f : Nat) (n : Int) (l : List Tok), inI n → (∀ t ∈ l, t.1 < 18 ∧ inI t.2) → allI (rowT f n l)
  | 0, _, _, hn, _ => hn
  | _ + 1, _, [], hn, _ => hn
  | f + 1, n, t :: l, hn, h => by
    have hk := lm_lt (levs (t :: l)) (l.length + 1) (by omega)
    have hm := h _ (getD_mem (l := t :: l) (k := lm (levs (t :: l)) (l.length + 1)) (by simpa using hk))
    exact ⟨hm.1, allI_row f n _ hn fun x hx => h x (List.mem_of_mem_take hx), allI_row f _ _ hm.2 fun x hx => h x (List.mem_of_mem_drop hx)⟩
/-- A tree's cells. -/
def EC (w : World) (lo : Nat) : ET → List Value → Prop
  | .num n, cs => cs = [.int .i64 0, .int .i64 n, .string ⟨#[]⟩, .string ⟨#[]⟩, .slice none 0 0]
  | .join o a b, cs => ∃ g a0 a1 a2 a3 a4 b0 b1 b2 b3 b4, cs = [.int .i64 4, .int .i64 0, .string ⟨#[]⟩, .string (S (opB o)), .slice (some ⟨g, 0, none⟩) 2 2] ∧ lo ≤ g ∧ Blk w g 38 #[a0, a1, a2, a3, a4, b0, b1, b2, b3, b4] ∧ EC w lo a [a0, a1, a2, a3, a4] ∧ EC w lo b [b0, b1, b2, b3, b4]
theorem EC.below {w w' : World} (hb : Below w.heap.size w w') : ∀ {t : ET} {lo : Nat} {cs : List Value}, EC w lo t cs → EC w' lo t cs
  | .num _, _, _, h => h
  | .join _ _ _, _, _, h => by
    obtain ⟨g, a0, a1, a2, a3, a4, b0, b1, b2, b3, b4, h1, h2, h3, h4, h5⟩ := h
    exact ⟨g, a0, a1, a2, a3, a4, b0, b1, b2, b3, b4, h1, h2, h3.below hb h3.lt, EC.below hb h4, EC.below hb h5⟩
theorem EC.from {w : World} : ∀ {t : ET} {lo lo' : Nat} {cs : List Value}, lo' ≤ lo → EC w lo t cs → EC w lo' t cs
  | .num _, _, _, _, _, h => h
  | .join _ _ _, _, _, _, hl, h => by
    obtain ⟨g, a0, a1, a2, a3, a4, b0, b1, b2, b3, b4, h1, h2, h3, h4, h5⟩ := h
    exact ⟨g, a0, a1, a2, a3, a4, b0, b1, b2, b3, b4, h1, Nat.le_trans hl h2, h3, EC.from hl h4, EC.from hl h5⟩
theorem EC.heap {w w' : World} : ∀ {t : ET} {lo : Nat} {cs : List Value}, (∀ g, lo ≤ g → g < w.heap.size → w'.heap[g]? = w.heap[g]?) → EC w lo t cs → EC w' lo t cs
  | .num _, _, _, _, h => h
  | .join _ _ _, _, _, hk, h => by
    obtain ⟨g, a0, a1, a2, a3, a4, b0, b1, b2, b3, b4, h1, h2, h3, h4, h5⟩ := h
    exact ⟨g, a0, a1, a2, a3, a4, b0, b1, b2, b3, b4, h1, h2, (hk g h2 h3.lt).trans h3, EC.heap hk h4, EC.heap hk h5⟩
end Go.Proofs.YtpgneaekflhgnaaDoor
