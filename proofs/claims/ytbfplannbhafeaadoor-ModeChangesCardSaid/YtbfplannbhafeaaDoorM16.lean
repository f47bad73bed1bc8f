/-
  The document's walk of a clause.
-/
import Derived.Test.YtbfplannbhafeaaDoorM15
namespace Go.Proofs.YtbfplannbhafeaaDoor
open Go.RowKit

theorem contains_app (p q : List UInt8) (x : UInt8) : (p ++ q).contains x = (p.contains x || q.contains x) := by
  induction p with
  | nil => simp
  | cons a p ih => rw [List.cons_append, List.contains_cons, List.contains_cons, ih, Bool.or_assoc]

theorem whoIs_nil : WhoIs [] Who.none := ⟨rfl, rfl, rfl⟩
theorem whoIs_all : WhoIs [117, 103, 111] Who.all := ⟨rfl, rfl, rfl⟩
/-- One letter more. -/
def grow (q : List UInt8) (l : UInt8) : List UInt8 := if l = 97 then q ++ [l] ++ [117, 103, 111] else q ++ [l]
theorem whoIs_add {q : List UInt8} {c : Who} {l : UInt8} (h : WhoIs q c) (hl : isWho l = true) : WhoIs (grow q l) (c.add l) := by
  obtain ⟨h1, h2, h3⟩ := h
  simp [isWho] at hl
  unfold grow WhoIs
  rcases hl with ((hl | hl) | hl) | hl <;> subst hl
  · rw [if_neg (by decide), contains_app, contains_app, contains_app, h1, h2, h3]
    obtain ⟨u, g, o⟩ := c
    cases u <;> cases g <;> cases o <;> exact ⟨rfl, rfl, rfl⟩
  · rw [if_neg (by decide), contains_app, contains_app, contains_app, h1, h2, h3]
    obtain ⟨u, g, o⟩ := c
    cases u <;> cases g <;> cases o <;> exact ⟨rfl, rfl, rfl⟩
  · rw [if_neg (by decide), contains_app, contains_app, contains_app, h1, h2, h3]
    obtain ⟨u, g, o⟩ := c
    cases u <;> cases g <;> cases o <;> exact ⟨rfl, rfl, rfl⟩
  · rw [if_pos rfl, contains_app, contains_app, contains_app, contains_app, contains_app, contains_app, h1, h2, h3]
    obtain ⟨u, g, o⟩ := c
    cases u <;> cases g <;> cases o <;> exact ⟨rfl, rfl, rfl⟩
theorem grow_len (q : List UInt8) (l : UInt8) : (grow q l).length ≤ q.length + 4 ∧ grow q l ≠ [] := by
  unfold grow
  split <;> simp

theorem has_who (l : UInt8) : (L ⟨#[117, 103, 111, 97]⟩).contains l = isWho l := by
  unfold isWho L
  simp only [List.contains_cons, List.contains_nil, Bool.or_false, Bool.or_assoc]
theorem has_let (l : UInt8) : (L ⟨#[114, 119, 120, 88, 115, 116]⟩).contains l = isLet l := by
  unfold isLet L
  simp only [List.contains_cons, List.contains_nil, Bool.or_false, Bool.or_assoc]
theorem has_sign (l : UInt8) : (L ⟨#[43, 45, 61]⟩).contains l = isSign l := by
  unfold isSign L
  simp only [List.contains_cons, List.contains_nil, Bool.or_false, Bool.or_assoc]

/-- Where the letters of who is meant have been read up to k. -/
structure Seen (l q : List UInt8) (c C : Who) (D : List UInt8) (nm : Bool) (k : Nat) : Prop where
  is : WhoIs q c
  len : q.length ≤ 4 * k
  all : C = ((l.drop k).takeWhile isWho).foldl Who.add c
  rest : D = (l.drop k).dropWhile isWho
  named : nm = (!q.isEmpty || !((l.drop k).takeWhile isWho).isEmpty)
theorem Seen.start (l : List UInt8) : Seen l [] Who.none ((l.takeWhile isWho).foldl Who.add Who.none) (l.dropWhile isWho) (namedOf l) 0 := ⟨whoIs_nil, by simp, rfl, rfl, rfl⟩
theorem Seen.step {l q : List UInt8} {c C : Who} {D : List UInt8} {nm : Bool} {k : Nat} (h : Seen l q c C D nm k) {x : UInt8} (hd : l.drop k = x :: l.drop (k + 1)) (hx : isWho x = true) : Seen l (grow q x) (c.add x) C D nm (k + 1) := by
  obtain ⟨h1, h2, h3, h4, h5⟩ := h
  rw [hd] at h3 h4 h5
  rw [List.takeWhile_cons, if_pos hx] at h3 h5
  rw [List.dropWhile_cons, if_pos hx] at h4
  have hg := grow_len q x
  refine ⟨whoIs_add h1 hx, by omega, h3, h4, ?_⟩
  rw [h5]
  cases he : (grow q x) with
  | nil => exact absurd he hg.2
  | cons => simp
theorem Seen.done {l q : List UInt8} {c C : Who} {D : List UInt8} {nm : Bool} {k : Nat} (h : Seen l q c C D nm k) (hd : l.drop k = [] ∨ ∃ x t, l.drop k = x :: t ∧ isWho x = false) : C = c ∧ D = l.drop k ∧ nm = !q.isEmpty := by
  obtain ⟨_, _, h3, h4, h5⟩ := h
  have e1 : (l.drop k).takeWhile isWho = [] := by
    rcases hd with hd | ⟨x, t, hd, hx⟩
    · rw [hd]; rfl
    · rw [hd, List.takeWhile_cons, if_neg (by rw [hx]; decide)]
  have e2 : (l.drop k).dropWhile isWho = l.drop k := by
    rcases hd with hd | ⟨x, t, hd, hx⟩
    · rw [hd]; rfl
    · rw [hd, List.dropWhile_cons, if_neg (by rw [hx]; decide)]
  rw [e1] at h3 h5
  rw [e2] at h4
  exact ⟨h3, h4, by rw [h5]; simp⟩

/-- Where the letters behind a sign have been read from f up to j. -/
structure Lets (l P D : List UInt8) (f j : Nat) : Prop where
  le : f ≤ j
  take : P = (l.drop f).take (j - f) ++ (l.drop j).takeWhile isLet
  rest : D = (l.drop j).dropWhile isLet
theorem Lets.start (l : List UInt8) (f : Nat) : Lets l ((l.drop f).takeWhile isLet) ((l.drop f).dropWhile isLet) f f := ⟨Nat.le_refl _, by simp, rfl⟩
theorem Lets.step {l P D : List UInt8} {f j : Nat} (h : Lets l P D f j) {x : UInt8} (hd : l.drop j = x :: l.drop (j + 1)) (hx : isLet x = true) : Lets l P D f (j + 1) := by
  obtain ⟨h1, h2, h3⟩ := h
  rw [hd] at h2 h3
  rw [List.takeWhile_cons, if_pos hx] at h2
  rw [List.dropWhile_cons, if_pos hx] at h3
  refine ⟨by omega, ?_, h3⟩
  have hj : l[j]? = some x := by
    have := congrArg (fun t => t[0]?) hd
    simpa [List.getElem?_drop] using this
  rw [h2, show j + 1 - f = (j - f) + 1 by omega, List.take_add_one, List.getElem?_drop, show f + (j - f) = j by omega, hj]
  simp
theorem Lets.done {l P D : List UInt8} {f j : Nat} (h : Lets l P D f j) (hd : l.drop j = [] ∨ ∃ x t, l.drop j = x :: t ∧ isLet x = false) : P = (l.drop f).take (j - f) ∧ D = l.drop j := by
  obtain ⟨_, h2, h3⟩ := h
  have e1 : (l.drop j).takeWhile isLet = [] := by
    rcases hd with hd | ⟨x, t, hd, hx⟩
    · rw [hd]; rfl
    · rw [hd, List.takeWhile_cons, if_neg (by rw [hx]; decide)]
  have e2 : (l.drop j).dropWhile isLet = l.drop j := by
    rcases hd with hd | ⟨x, t, hd, hx⟩
    · rw [hd]; rfl
    · rw [hd, List.dropWhile_cons, if_neg (by rw [hx]; decide)]
  rw [e1, List.append_nil] at h2
  rw [e2] at h3
  exact ⟨h2, h3⟩
theorem takeWhile_all (f : UInt8 → Bool) : ∀ (l : List UInt8) (x : UInt8), x ∈ l.takeWhile f → f x = true
  | [], _, h => by simp at h
  | y :: l, x, h => by
    rw [List.takeWhile_cons] at h
    split at h
    · rename_i hy
      rcases List.mem_cons.1 h with h | h
      · rw [h]; exact hy
      · exact takeWhile_all f l x h
    · simp at h

end Go.Proofs.YtbfplannbhafeaaDoor
