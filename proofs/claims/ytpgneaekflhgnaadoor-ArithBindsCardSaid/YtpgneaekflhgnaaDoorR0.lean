/-
  Plain: a row of numbers with signs between them: parted at the last of the signs that bind least; what a level reads; how signs are spelled.
-/
import Derived.Test.YtpgneaekflhgnaaDoorLib
namespace Go.Proofs.YtpgneaekflhgnaaDoor
open Go.RowKit

/-- Of levels, the last of the least among the first so many. -/
def lm (l : List Nat) : Nat → Nat
  | 0 => 0
  | k + 1 => if l.getD k 0 ≤ l.getD (lm l k) 0 then k else lm l k
theorem lm_lt (l : List Nat) : ∀ k, 0 < k → lm l k < k
  | 0, h => absurd h (by omega)
  | 1, _ => by
    have h : lm l 1 = 0 := by rw [lm, lm, if_pos (Nat.le_refl _)]
    rw [h]
    exact Nat.zero_lt_one
  | k + 2, _ => by
    have ih := lm_lt l (k + 1) (by omega)
    rw [lm]
    split
    · omega
    · omega
theorem lm_at (l : List Nat) : ∀ k, lm l k < k + 1
  | 0 => Nat.zero_lt_one
  | k + 1 => Nat.lt_of_lt_of_le (lm_lt l (k + 1) (by omega)) (by omega)
theorem lm_split (a b : List Nat) (x : Nat) (ha : ∀ y ∈ a, x ≤ y) (hb : ∀ y ∈ b, x < y) (k : Nat) (hk : a.length < k) (hk' : k ≤ a.length + 1 + b.length) :
    lm (a ++ x :: b) k = a.length := by
  induction k with
  | zero => omega
  | succ k ih =>
    rw [lm]
    by_cases hlt : a.length < k
    · rw [ih hlt (by omega)]
      have e1 : (a ++ x :: b).getD a.length 0 = x := by simp [List.getD]
      have e2 : x < (a ++ x :: b).getD k 0 := by
        obtain ⟨j, rfl⟩ : ∃ j, k = a.length + 1 + j := ⟨k - (a.length + 1), by omega⟩
        have hj : j < b.length := by omega
        have : (a ++ x :: b).getD (a.length + 1 + j) 0 = b[j] := by
          rw [List.getD, List.getElem?_append_right (by omega)]
          have : a.length + 1 + j - a.length = j + 1 := by omega
          rw [this]
          simp [hj]
        rw [this]
        exact hb _ (List.getElem_mem hj)
      rw [e1, if_neg (by omega)]
    · have : k = a.length := by omega
      subst this
      have e1 : (a ++ x :: b).getD a.length 0 = x := by simp [List.getD]
      rw [e1]
      have hm := lm_at (a ++ x :: b) a.length
      have e2 : x ≤ (a ++ x :: b).getD (lm (a ++ x :: b) a.length) 0 := by
        by_cases hq : lm (a ++ x :: b) a.length < a.length
        · have : (a ++ x :: b).getD (lm (a ++ x :: b) a.length) 0 = a[lm (a ++ x :: b) a.length] := by
            rw [List.getD, List.getElem?_append_left hq]
            simp [hq]
          rw [this]
          exact ha _ (List.getElem_mem hq)
        · have : lm (a ++ x :: b) a.length = a.length := by omega
          rw [this, e1]
          exact Nat.le_refl _
      rw [if_pos e2]

/-- A sign's number in the table, and how much it binds. -/
def opLev (o : Nat) : Nat := ([0, 1, 2, 3, 4, 5, 5, 6, 6, 6, 6, 7, 7, 8, 8, 9, 9, 9] : List Nat).getD o 0
abbrev Tok := Nat × Int
def levs (l : List Tok) : List Nat := l.map fun t => opLev t.1
def truI (b : Bool) : Int := if b then 1 else 0
/-- Two worths joined; none: an error. -/
def combV (ap : Nat → Int → Int → Option Int) (o : Nat) (a b : Option Int) : Option Int :=
  a.bind fun x =>
    if o = 0 then (if x ≠ 0 then some 1 else b.map fun y => truI (decide (y ≠ 0)))
    else if o = 1 then (if x = 0 then some 0 else b.map fun y => truI (decide (y ≠ 0)))
    else b.bind fun y => ap o x y
/-- What a row of numbers is worth: parted at the last of the signs that bind least. -/
def rowV (ap : Nat → Int → Int → Option Int) : Nat → Int → List Tok → Option Int
  | 0, _, _ => none
  | _ + 1, n, [] => some n
  | f + 1, n, t :: l =>
    let k := lm (levs (t :: l)) (l.length + 1)
    combV ap (((t :: l).getD k (0, 0)).1) (rowV ap f n ((t :: l).take k)) (rowV ap f ((t :: l).getD k (0, 0)).2 ((t :: l).drop (k + 1)))
theorem rowV_fuel (ap : Nat → Int → Int → Option Int) : ∀ (f g : Nat) (n : Int) (l : List Tok), l.length < f → l.length < g → rowV ap f n l = rowV ap g n l
  | 0, _, _, _, h, _ => absurd h (by omega)
  | _, 0, _, _, _, h => absurd h (by omega)
  | f + 1, g + 1, n, [], _, _ => rfl
  | f + 1, g + 1, n, t :: l, h1, h2 => by
    have hk := lm_lt (levs (t :: l)) (l.length + 1) (by omega)
    simp only [List.length_cons] at h1 h2
    simp only [rowV]
    rw [rowV_fuel ap f g n _ (by simp only [List.length_take, List.length_cons]; omega) (by simp only [List.length_take, List.length_cons]; omega),
      rowV_fuel ap f g _ _ (by simp only [List.length_drop, List.length_cons]; omega) (by simp only [List.length_drop, List.length_cons]; omega)]
def worth (ap : Nat → Int → Int → Option Int) (n : Int) (l : List Tok) : Option Int := rowV ap (l.length + 1) n l
theorem worth_nil (ap : Nat → Int → Int → Option Int) (n : Int) : worth ap n [] = some n := rfl
theorem worth_cut (ap : Nat → Int → Int → Option Int) (n : Int) (l : List Tok) (hl : l ≠ []) :
    worth ap n l = combV ap ((l.getD (lm (levs l) l.length) (0, 0)).1) (worth ap n (l.take (lm (levs l) l.length))) (worth ap (l.getD (lm (levs l) l.length) (0, 0)).2 (l.drop (lm (levs l) l.length + 1))) := by
  cases l with
  | nil => exact absurd rfl hl
  | cons t l =>
    have hk := lm_lt (levs (t :: l)) (l.length + 1) (by omega)
    show rowV ap (l.length + 1 + 1) n (t :: l) = _
    simp only [rowV]
    rw [worth, worth,
      rowV_fuel ap (l.length + 1) (((t :: l).take (lm (levs (t :: l)) (l.length + 1))).length + 1) n _ (by simp only [List.length_take, List.length_cons]; omega) (by omega),
      rowV_fuel ap (l.length + 1) (((t :: l).drop (lm (levs (t :: l)) (l.length + 1) + 1)).length + 1) _ _ (by simp only [List.length_drop, List.length_cons]; omega) (by omega)]
    rfl
/-- Behind a sign that binds no more than all ahead of it, and less than all behind it. -/
theorem worth_split (ap : Nat → Int → Int → Option Int) (n : Int) (a b : List Tok) (o : Nat) (y : Int) (ha : ∀ t ∈ a, opLev o ≤ opLev t.1) (hb : ∀ t ∈ b, opLev o < opLev t.1) :
    worth ap n (a ++ (o, y) :: b) = combV ap o (worth ap n a) (worth ap y b) := by
  have hl : levs (a ++ (o, y) :: b) = levs a ++ opLev o :: levs b := by simp [levs]
  have hlen : (levs a).length = a.length := by simp [levs]
  have hlb : (levs b).length = b.length := by simp [levs]
  have hk : lm (levs (a ++ (o, y) :: b)) (a ++ (o, y) :: b).length = a.length := by
    rw [hl, lm_split (levs a) (levs b) (opLev o) ?_ ?_ _ (by simp [levs]) (by rw [hlen, hlb]; simp; omega), hlen]
    · intro v hv
      obtain ⟨t, ht, rfl⟩ := List.mem_map.1 hv
      exact ha t ht
    · intro v hv
      obtain ⟨t, ht, rfl⟩ := List.mem_map.1 hv
      exact hb t ht
  rw [worth_cut ap n _ (by simp), hk]
  have e1 : (a ++ (o, y) :: b).getD a.length (0, 0) = (o, y) := by simp [List.getD]
  have e2 : (a ++ (o, y) :: b).take a.length = a := by simp
  have e3 : (a ++ (o, y) :: b).drop (a.length + 1) = b := by
    rw [List.drop_append]
    simp
  rw [e1, e2, e3]

/-! ### what a level reads -/
def tw (n : Nat) (l : List Tok) : List Tok := l.takeWhile fun t => decide (n ≤ opLev t.1)
def dw (n : Nat) (l : List Tok) : List Tok := l.dropWhile fun t => decide (n ≤ opLev t.1)
theorem tw_dw (n : Nat) (l : List Tok) : tw n l ++ dw n l = l := List.takeWhile_append_dropWhile
theorem tw_all (n : Nat) : ∀ (l : List Tok), ∀ t ∈ tw n l, n ≤ opLev t.1
  | [], _, h => absurd h (by simp [tw])
  | x :: l, t, h => by
    by_cases hx : n ≤ opLev x.1
    · have : tw n (x :: l) = x :: tw n l := by simp [tw, hx]
      rw [this] at h
      rcases List.mem_cons.1 h with rfl | h
      · exact hx
      · exact tw_all n l t h
    · have : tw n (x :: l) = [] := by simp [tw, hx]
      rw [this] at h
      exact absurd h (by simp)
theorem dw_head (n : Nat) : ∀ (l : List Tok) (t : Tok) (r : List Tok), dw n l = t :: r → opLev t.1 < n
  | [], _, _, h => absurd h (by simp [dw])
  | x :: l, t, r, h => by
    by_cases hx : n ≤ opLev x.1
    · have : dw n (x :: l) = dw n l := by simp [dw, hx]
      rw [this] at h
      exact dw_head n l t r h
    · have : dw n (x :: l) = x :: l := by simp [dw, hx]
      rw [this] at h
      have := (List.cons.inj h).1
      rw [← this]
      omega
/-- A prefix that binds so much, and behind it what doesn't: they are the two parts. -/
theorem tw_of (n : Nat) : ∀ (c r : List Tok), (∀ t ∈ c, n ≤ opLev t.1) → (∀ t s, r = t :: s → opLev t.1 < n) → tw n (c ++ r) = c ∧ dw n (c ++ r) = r
  | [], r, _, hr => by
    cases r with
    | nil => exact ⟨rfl, rfl⟩
    | cons t s =>
      have := hr t s rfl
      have hd : decide (n ≤ opLev t.1) = false := decide_eq_false (by omega)
      constructor
      · show List.takeWhile _ (t :: s) = []
        rw [List.takeWhile_cons, hd]; rfl
      · show List.dropWhile _ (t :: s) = t :: s
        rw [List.dropWhile_cons, hd]; rfl
  | x :: c, r, hc, hr => by
    have hx := hc x (by simp)
    obtain ⟨h1, h2⟩ := tw_of n c r (fun t ht => hc t (by simp [ht])) hr
    constructor
    · have : tw n (x :: c ++ r) = x :: tw n (c ++ r) := by simp [tw, hx]
      rw [this, h1]
    · have : dw n (x :: c ++ r) = dw n (c ++ r) := by simp [dw, hx]
      rw [this, h2]
/-- The signs, as they are spelled. -/
def opB (o : Nat) : List UInt8 :=
  ([[124, 124], [38, 38], [124], [94], [38], [61, 61], [33, 61], [60, 61], [62, 61], [60], [62], [60, 60], [62, 62], [43], [45], [42], [47], [37]] : List (List UInt8)).getD o []
/-- The longer signs that a sign is not a part of. -/
def butB (o : Nat) : List (List UInt8) :=
  if o = 2 ∨ o = 4 ∨ o = 9 ∨ o = 10 then [opB o ++ [61], opB o ++ opB o]
  else if o = 3 ∨ 11 ≤ o then [opB o ++ [61]] else []
def levB (n : Nat) : List Nat := ([[0], [1], [2], [3], [4], [5, 6], [7, 8, 9, 10], [11, 12], [13, 14], [15, 16, 17]] : List (List Nat)).getD n []
def takeL (t : List UInt8) (but : List (List UInt8)) (l : List UInt8) : Bool := t.isPrefixOf l && !(but.any fun b => b.isPrefixOf l)
/-- Which sign of a level comes. -/
def signL (n : Nat) (l : List UInt8) : Option Nat := (levB n).find? fun o => takeL (opB o) (butB o) l
/-- A byte that stands in no sign. -/
def offB (c : UInt8) : Bool := c == 32 || (decide (48 ≤ c.toNat) && decide (c.toNat ≤ 57))
def sgnB (c : UInt8) : Bool := c == 124 || c == 38 || c == 94 || c == 61 || c == 33 || c == 60 || c == 62 || c == 43 || c == 45 || c == 42 || c == 47 || c == 37
theorem off_sgn {c d : UInt8} (hc : offB c = true) (hd : sgnB d = true) : (d == c) = false := by
  rcases Bool.eq_false_or_eq_true (d == c) with h | h
  · have e : d = c := by simpa using h
    subst e
    exfalso
    simp only [offB, sgnB, Bool.or_eq_true, Bool.and_eq_true, decide_eq_true_eq, beq_iff_eq] at hc hd
    rcases hd with ((((((((((h | h) | h) | h) | h) | h) | h) | h) | h) | h) | h) | h <;> subst h <;> simp at hc
  · exact h
theorem prefix_off : ∀ (t o : List UInt8) (c : UInt8) (r : List UInt8), t.all sgnB = true → offB c = true → t.isPrefixOf (o ++ c :: r) = t.isPrefixOf o
  | [], o, c, r, _, _ => by simp
  | d :: t, [], c, r, ht, hc => by
    have hd : sgnB d = true := by simp at ht; exact ht.1
    show (d == c && t.isPrefixOf r) = false
    rw [off_sgn hc hd]
    rfl
  | d :: t, x :: o, c, r, ht, hc => by
    have h2 : t.all sgnB = true := by simp at ht ⊢; exact ht.2
    show (d == x && t.isPrefixOf (o ++ c :: r)) = (d == x && t.isPrefixOf o)
    rw [prefix_off t o c r h2 hc]
theorem take_off (t : List UInt8) (but : List (List UInt8)) (o : List UInt8) (c : UInt8) (r : List UInt8) (ht : t.all sgnB = true) (hb : but.all (fun b => b.all sgnB) = true) (hc : offB c = true) :
    takeL t but (o ++ c :: r) = takeL t but o := by
  rw [takeL, takeL, prefix_off t o c r ht hc]
  congr 2
  induction but with
  | nil => rfl
  | cons b but ih =>
    have h := hb
    simp only [List.all_cons, Bool.and_eq_true] at h
    rw [List.any_cons, List.any_cons, prefix_off b o c r h.1 hc, ih h.2]
theorem opB_sgn : ∀ o, o < 18 → (opB o).all sgnB = true := by decide
theorem butB_sgn : ∀ o, o < 18 → (butB o).all (fun b => b.all sgnB) = true := by decide
theorem levB_lt : ∀ n, n < 10 → (levB n).all (fun o => decide (o < 18)) = true := by decide
theorem sign_self : ∀ n, n < 10 → ∀ o, o < 18 → signL n (opB o) = if opLev o = n then some o else none := by decide
theorem find_congr {α : Type} {p q : α → Bool} : ∀ (l : List α), (∀ x ∈ l, p x = q x) → l.find? p = l.find? q
  | [], _ => rfl
  | x :: l, h => by
    rw [List.find?_cons, List.find?_cons, h x (by simp), find_congr l fun y hy => h y (by simp [hy])]
/-- Which sign comes, where one is spelled. -/
theorem sign_at {n o : Nat} (hn : n < 10) (ho : o < 18) {c : UInt8} (hc : offB c = true) (r : List UInt8) :
    signL n (opB o ++ c :: r) = if opLev o = n then some o else none := by
  rw [← sign_self n hn o ho]
  refine find_congr _ fun x hx => ?_
  have hl := List.all_eq_true.1 (levB_lt n hn) x hx
  have hx18 : x < 18 := by simpa using hl
  exact take_off _ _ _ _ _ (opB_sgn x hx18) (butB_sgn x hx18) hc
theorem sign_end : ∀ n, n < 10 → signL n [] = none := by decide
/-- What else may stand behind a number isn't there. -/
theorem quest_off : ∀ o, o < 18 → ([63] : List UInt8).isPrefixOf (opB o) = false := by decide

end Go.Proofs.YtpgneaekflhgnaaDoor
