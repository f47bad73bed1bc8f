/-
  Patterns, plain: signs, sets, parts, and which texts are a pattern's.
-/
import Derived.Test.YtiacoomeakodnaaLib
namespace Go.Proofs.Ytiacoomeakodnaa
open Go.RowKit

/-- A byte, and whether it is quoted. -/
structure Sg where
  b : UInt8
  q : Bool
def isb (s : Sg) (b : UInt8) : Bool := !s.q && s.b == b
abbrev Span := UInt8 × UInt8
/-- A part of a pattern. -/
structure Pt where
  kind : UInt8
  b : UInt8
  neg : Bool
  set : List Span
def inSpan (c : UInt8) (s : Span) : Bool := decide (s.1 ≤ c) && decide (c ≤ s.2)
def fitsP (p : Pt) (c : UInt8) : Bool := if p.kind = 98 then p.b == c else if p.kind = 63 then true else if p.set.any (inSpan c) then !p.neg else p.neg

/-! ### names of bytes -/
def nmAlpha : List UInt8 := [97, 108, 112, 104, 97]
def nmDigit : List UInt8 := [100, 105, 103, 105, 116]
def nmAlnum : List UInt8 := [97, 108, 110, 117, 109]
def nmUpper : List UInt8 := [117, 112, 112, 101, 114]
def nmLower : List UInt8 := [108, 111, 119, 101, 114]
def nmSpace : List UInt8 := [115, 112, 97, 99, 101]
def nmBlank : List UInt8 := [98, 108, 97, 110, 107]
def nmPunct : List UInt8 := [112, 117, 110, 99, 116]
def nmXdigit : List UInt8 := [120, 100, 105, 103, 105, 116]
def nmCntrl : List UInt8 := [99, 110, 116, 114, 108]
def nmPrint : List UInt8 := [112, 114, 105, 110, 116]
def nmGraph : List UInt8 := [103, 114, 97, 112, 104]
def classL (n : List UInt8) : Option (List Span) :=
  if n = nmAlpha then some [(97, 122), (65, 90)] else if n = nmDigit then some [(48, 57)] else if n = nmAlnum then some [(97, 122), (65, 90), (48, 57)] else if n = nmUpper then some [(65, 90)] else
  if n = nmLower then some [(97, 122)] else if n = nmSpace then some [(9, 13), (32, 32)] else if n = nmBlank then some [(9, 9), (32, 32)] else if n = nmPunct then some [(33, 47), (58, 64), (91, 96), (123, 126)] else
  if n = nmXdigit then some [(48, 57), (97, 102), (65, 70)] else if n = nmCntrl then some [(0, 31), (127, 127)] else if n = nmPrint then some [(32, 126)] else if n = nmGraph then some [(33, 126)] else none

theorem classL_none {n : List UInt8} (h : classL n = none) : n ≠ nmAlpha ∧ n ≠ nmDigit ∧ n ≠ nmAlnum ∧ n ≠ nmUpper ∧ n ≠ nmLower ∧ n ≠ nmSpace ∧ n ≠ nmBlank ∧ n ≠ nmPunct ∧ n ≠ nmXdigit ∧ n ≠ nmCntrl ∧ n ≠ nmPrint ∧ n ≠ nmGraph := by
  unfold classL at h
  by_cases h0 : n = nmAlpha
  · rw [if_pos h0] at h; cases h
  rw [if_neg h0] at h
  by_cases h1 : n = nmDigit
  · rw [if_pos h1] at h; cases h
  rw [if_neg h1] at h
  by_cases h2 : n = nmAlnum
  · rw [if_pos h2] at h; cases h
  rw [if_neg h2] at h
  by_cases h3 : n = nmUpper
  · rw [if_pos h3] at h; cases h
  rw [if_neg h3] at h
  by_cases h4 : n = nmLower
  · rw [if_pos h4] at h; cases h
  rw [if_neg h4] at h
  by_cases h5 : n = nmSpace
  · rw [if_pos h5] at h; cases h
  rw [if_neg h5] at h
  by_cases h6 : n = nmBlank
  · rw [if_pos h6] at h; cases h
  rw [if_neg h6] at h
  by_cases h7 : n = nmPunct
  · rw [if_pos h7] at h; cases h
  rw [if_neg h7] at h
  by_cases h8 : n = nmXdigit
  · rw [if_pos h8] at h; cases h
  rw [if_neg h8] at h
  by_cases h9 : n = nmCntrl
  · rw [if_pos h9] at h; cases h
  rw [if_neg h9] at h
  by_cases h10 : n = nmPrint
  · rw [if_pos h10] at h; cases h
  rw [if_neg h10] at h
  by_cases h11 : n = nmGraph
  · rw [if_pos h11] at h; cases h
  rw [if_neg h11] at h
  exact ⟨h0, h1, h2, h3, h4, h5, h6, h7, h8, h9, h10, h11⟩

/-- What stands up to :] ; how many signs. -/
def nameS (name : List UInt8) (k : Nat) : List Sg → Option (List UInt8 × Nat)
  | a :: b :: l => if isb a 58 && isb b 93 then some (name, k + 2) else nameS (name ++ [a.b]) (k + 1) (b :: l)
  | _ => none
def namedS : List Sg → Option (List Span × Nat)
  | a :: b :: l => if isb a 91 && isb b 58 then match nameS [] 2 l with
    | some (n, k) => (classL n).map (·, k)
    | none => none else none
  | _ => none
theorem nameS_gt : ∀ (l : List Sg) (n : List UInt8) (k : Nat) (m : List UInt8) (j : Nat), nameS n k l = some (m, j) → k + 2 ≤ j ∧ j ≤ k + l.length
  | [], _, _, _, _, h => by cases h
  | [_], _, _, _, _, h => by cases h
  | a :: b :: l, n, k, m, j, h => by
    rw [nameS] at h
    split at h
    · cases h; simp
    · have := nameS_gt (b :: l) _ _ _ _ h
      simp at this ⊢; omega
theorem namedS_gt {l : List Sg} {sp : List Span} {k : Nat} (h : namedS l = some (sp, k)) : 4 ≤ k ∧ k ≤ l.length := by
  match l, h with
  | a :: b :: l, h =>
    rw [namedS] at h
    split at h
    · split at h
      · rename_i n k' h2
        obtain ⟨x, _, hx⟩ := Option.map_eq_some_iff.1 h
        cases hx
        have := nameS_gt _ _ _ _ _ h2
        simp; omega
      · cases h
    · cases h

/-- Is this the middle and the end of a range? -/
def rangeS : List Sg → Option UInt8
  | d :: x :: _ => if isb d 45 && !isb x 93 then some x.b else none
  | _ => none
theorem rangeS_len {l : List Sg} {x : UInt8} (h : rangeS l = some x) : 2 ≤ l.length := by
  match l, h with
  | _ :: _ :: _, _ => simp

/-- The members of a set, and how many signs to its end. -/
def setS (first : Bool) (k : Nat) (sp : List Span) (l : List Sg) : Option (List Span × Nat) :=
  match l with
  | [] => none
  | s :: t => if isb s 93 && !first then some (sp, k + 1) else
    match _hn : namedS (s :: t) with
    | some (cs, n) => setS false (k + n) (sp ++ cs) ((s :: t).drop n)
    | none => match rangeS t with
      | some x => setS false (k + 3) (sp ++ [(s.b, x)]) (t.drop 2)
      | none => setS false (k + 1) (sp ++ [(s.b, s.b)]) t
  termination_by l.length
  decreasing_by
    · have := namedS_gt _hn; simp at this ⊢; omega
    · simp; omega
    · simp
theorem setS_nil (f : Bool) (k : Nat) (sp : List Span) : setS f k sp [] = none := by rw [setS]
theorem setS_end {k : Nat} {sp : List Span} {s : Sg} {t : List Sg} (h : isb s 93 = true) : setS false k sp (s :: t) = some (sp, k + 1) := by rw [setS, if_pos (by rw [h]; rfl)]
theorem setS_named {f : Bool} {k : Nat} {sp cs : List Span} {s : Sg} {t : List Sg} {n : Nat} (h : (isb s 93 && !f) = false) (hn : namedS (s :: t) = some (cs, n)) : setS f k sp (s :: t) = setS false (k + n) (sp ++ cs) ((s :: t).drop n) := by
  rw [setS, if_neg (by rw [h]; decide)]
  split
  · rename_i cs' n' h'; rw [hn] at h'; cases h'; rfl
  · rename_i h'; rw [hn] at h'; cases h'
theorem setS_range {f : Bool} {k : Nat} {sp : List Span} {s : Sg} {t : List Sg} {x : UInt8} (h : (isb s 93 && !f) = false) (hn : namedS (s :: t) = none) (hr : rangeS t = some x) : setS f k sp (s :: t) = setS false (k + 3) (sp ++ [(s.b, x)]) (t.drop 2) := by
  rw [setS, if_neg (by rw [h]; decide)]
  split
  · rename_i cs' n' h'; rw [hn] at h'; cases h'
  · rw [hr]
theorem setS_one {f : Bool} {k : Nat} {sp : List Span} {s : Sg} {t : List Sg} (h : (isb s 93 && !f) = false) (hn : namedS (s :: t) = none) (hr : rangeS t = none) : setS f k sp (s :: t) = setS false (k + 1) (sp ++ [(s.b, s.b)]) t := by
  rw [setS, if_neg (by rw [h]; decide)]
  split
  · rename_i cs' n' h'; rw [hn] at h'; cases h'
  · rw [hr]
theorem setS_gt : ∀ (n : Nat) (l : List Sg) (f : Bool) (k : Nat) (sp sp' : List Span) (j : Nat), l.length ≤ n → setS f k sp l = some (sp', j) → k + 1 ≤ j ∧ j ≤ k + l.length
  | _, [], _, _, _, _, _, _, h => by rw [setS_nil] at h; cases h
  | 0, _ :: _, _, _, _, _, _, h, _ => by simp at h
  | n + 1, s :: t, f, k, sp, sp', j, hn, h => by
    simp at hn
    cases he : (isb s 93 && !f) with
    | true =>
      simp at he
      obtain ⟨he, rfl⟩ := he
      rw [setS_end he] at h; cases h; simp
    | false =>
      cases hm : namedS (s :: t) with
      | some x =>
        obtain ⟨cs, m⟩ := x
        rw [setS_named he hm] at h
        have h1 := namedS_gt hm
        have h2 := setS_gt n _ _ _ _ _ _ (by simp at h1 ⊢; omega) h
        simp at h1 h2 ⊢; omega
      | none =>
        cases hr : rangeS t with
        | some x =>
          rw [setS_range he hm hr] at h
          have h1 := rangeS_len hr
          have h2 := setS_gt n _ _ _ _ _ _ (by simp; omega) h
          simp at h2 ⊢; omega
        | none =>
          rw [setS_one he hm hr] at h
          have h2 := setS_gt n _ _ _ _ _ _ (by omega) h
          simp at h2 ⊢; omega

/-- A set behind its bracket. -/
def notS : List Sg → Bool
  | s :: _ => isb s 33 || isb s 94
  | [] => false
def setP (l : List Sg) : Option (Pt × Nat) := match setS true (if notS l then 1 else 0) [] (if notS l then l.drop 1 else l) with
  | some (sp, k) => some (⟨91, 0, notS l, sp⟩, k)
  | none => none
theorem notS_len {l : List Sg} (h : notS l = true) : 1 ≤ l.length := by
  cases l with
  | nil => cases h
  | cons => simp
theorem setP_gt {l : List Sg} {p : Pt} {k : Nat} (h : setP l = some (p, k)) : 1 ≤ k ∧ k ≤ l.length := by
  unfold setP at h
  split at h
  · rename_i sp k' h2
    cases h
    have := setS_gt _ _ _ _ _ _ _ (Nat.le_refl _) h2
    split at this
    · rename_i hn
      have := notS_len hn
      simp_all; omega
    · omega
  · cases h

/-- The pattern of signs. -/
def comp (l : List Sg) : List Pt :=
  match l with
  | [] => []
  | c :: t => if isb c 63 || isb c 42 then ⟨c.b, 0, false, []⟩ :: comp t else
    if isb c 91 then match setP t with
      | some (p, n) => p :: comp (t.drop n)
      | none => ⟨98, c.b, false, []⟩ :: comp t
    else ⟨98, c.b, false, []⟩ :: comp t
  termination_by l.length
  decreasing_by all_goals (simp; try omega)
theorem comp_nil : comp [] = [] := by rw [comp]
theorem comp_sign {c : Sg} {t : List Sg} (h : (isb c 63 || isb c 42) = true) : comp (c :: t) = ⟨c.b, 0, false, []⟩ :: comp t := by rw [comp, if_pos h]
theorem comp_set {c : Sg} {t : List Sg} {p : Pt} {n : Nat} (h : isb c 91 = true) (hs : setP t = some (p, n)) : comp (c :: t) = p :: comp (t.drop n) := by
  have hb : c.b = 91 := by simp [isb] at h; exact h.2
  have h1 : (isb c 63 || isb c 42) = false := by simp [isb, hb]
  rw [comp, if_neg (by rw [h1]; decide), if_pos h]
  split
  · rename_i p' n' h'; rw [hs] at h'; cases h'; rfl
  · rename_i h'; rw [hs] at h'; cases h'
theorem comp_byte {c : Sg} {t : List Sg} (h1 : (isb c 63 || isb c 42) = false) (h2 : isb c 91 = true → setP t = none) : comp (c :: t) = ⟨98, c.b, false, []⟩ :: comp t := by
  rw [comp, if_neg (by rw [h1]; decide)]
  split
  · rename_i h
    split
    · rename_i p' n' h'; rw [h2 h] at h'; cases h'
    · rfl
  · rfl

/-! ### which texts -/
def anyT (f : List UInt8 → Bool) : List UInt8 → Bool
  | [] => f []
  | c :: s => f (c :: s) || anyT f s
def matchP : List Pt → List UInt8 → Bool
  | [], s => s.isEmpty
  | p :: l, s => if p.kind = 42 then anyT (matchP l) s else match s with
    | [] => false
    | c :: s' => fitsP p c && matchP l s'
theorem anyT_iff (f : List UInt8 → Bool) : ∀ s, anyT f s = true ↔ ∃ n, n ≤ s.length ∧ f (s.drop n) = true
  | [] => by
    constructor
    · intro h; exact ⟨0, Nat.le_refl _, h⟩
    · rintro ⟨n, hn, h⟩; simpa [anyT] using h
  | c :: s => by
    rw [anyT, Bool.or_eq_true, anyT_iff f s]
    constructor
    · rintro (h | ⟨n, hn, h⟩)
      · exact ⟨0, by omega, h⟩
      · exact ⟨n + 1, by simp; omega, h⟩
    · rintro ⟨n, hn, h⟩
      cases n with
      | zero => exact .inl h
      | succ n => exact .inr ⟨n, by simp at hn; omega, h⟩
theorem matchP_nil (s : List UInt8) : matchP [] s = s.isEmpty := by unfold matchP; rfl
theorem matchP_star {p : Pt} {l : List Pt} {s : List UInt8} (h : p.kind = 42) : matchP (p :: l) s = anyT (matchP l) s := by
  show (if p.kind = 42 then anyT (matchP l) s else _) = _
  rw [if_pos h]
theorem matchP_end {p : Pt} {l : List Pt} (h : p.kind ≠ 42) : matchP (p :: l) [] = false := by
  show (if p.kind = 42 then anyT (matchP l) [] else false) = _
  rw [if_neg h]
theorem matchP_cons {p : Pt} {l : List Pt} {c : UInt8} {s : List UInt8} (h : p.kind ≠ 42) : matchP (p :: l) (c :: s) = (fitsP p c && matchP l s) := by
  show (if p.kind = 42 then anyT (matchP l) (c :: s) else (fitsP p c && matchP l s)) = _
  rw [if_neg h]

/-- Parts without a star take just as many bytes as they are. -/
theorem matchP_seg : ∀ (l1 l2 : List Pt) (s : List UInt8), (∀ p ∈ l1, p.kind ≠ 42) → matchP (l1 ++ l2) s = true → l1.length ≤ s.length ∧ matchP l2 (s.drop l1.length) = true
  | [], _, _, _, h => ⟨Nat.zero_le _, h⟩
  | p :: l1, l2, [], hp, h => by rw [List.cons_append, matchP_end (hp p (by simp))] at h; cases h
  | p :: l1, l2, c :: s, hp, h => by
    rw [List.cons_append, matchP_cons (hp p (by simp)), Bool.and_eq_true] at h
    have := matchP_seg l1 l2 s (fun q hq => hp q (by simp [hq])) h.2
    simp; exact this

/-! ### the way that goes back to the last star alone -/
/-- May the text behind the last star be taken up further on than at mark? -/
def later (l : List Pt) (s : List UInt8) (st mark : Nat) : Prop := ∃ m, mark < m ∧ m ≤ s.length ∧ matchP (l.drop (st + 1)) (s.drop m) = true
structure Greedy (l : List Pt) (s : List UInt8) (R : Bool) (i k : Nat) (star : Int) (mark : Nat) : Prop where
  hi : i ≤ s.length
  hk : k ≤ l.length
  hm : mark ≤ i
  way : (star = -1 ∧ R = matchP (l.drop k) (s.drop i)) ∨ ∃ st : Nat, star = st ∧ st < k ∧ i + st + 1 = k + mark ∧ (∀ j, st < j → j < k → ∀ p, l[j]? = some p → p.kind ≠ 42) ∧ (R = true ↔ matchP (l.drop k) (s.drop i) = true ∨ later l s st mark)

theorem Greedy.start (l : List Pt) (s : List UInt8) : Greedy l s (matchP l s) 0 0 (-1) 0 := ⟨Nat.zero_le _, Nat.zero_le _, Nat.le_refl _, .inl ⟨rfl, rfl⟩⟩

theorem drop_cons {α : Type} {l : List α} {k : Nat} {p : α} (h : l[k]? = some p) : l.drop k = p :: l.drop (k + 1) := by
  obtain ⟨hk, e⟩ := List.getElem?_eq_some_iff.1 h
  rw [List.drop_eq_getElem_cons hk, e]

theorem Greedy.star {l : List Pt} {s : List UInt8} {R : Bool} {i k : Nat} {star : Int} {mark : Nat} (h : Greedy l s R i k star mark) {p : Pt} (hp : l[k]? = some p) (hs : p.kind = 42) : Greedy l s R i (k + 1) k i := by
  obtain ⟨hi, hk, hm, way⟩ := h
  have hk' := (List.getElem?_eq_some_iff.1 hp).1
  have hM : matchP (l.drop k) (s.drop i) = true ↔ matchP (l.drop (k + 1)) (s.drop i) = true ∨ later l s k i := by
    rw [drop_cons hp, matchP_star hs, anyT_iff]
    constructor
    · rintro ⟨n, hn, h⟩
      rw [List.length_drop] at hn
      rw [List.drop_drop] at h
      cases n with
      | zero => exact .inl h
      | succ n => exact .inr ⟨i + (n + 1), by omega, by omega, h⟩
    · rintro (h | ⟨m, h1, h2, h3⟩)
      · exact ⟨0, Nat.zero_le _, h⟩
      · exact ⟨m - i, by rw [List.length_drop]; omega, by rw [List.drop_drop, show i + (m - i) = m by omega]; exact h3⟩
  refine ⟨hi, hk', Nat.le_refl _, .inr ⟨k, rfl, by omega, by omega, fun j h1 h2 => by omega, ?_⟩⟩
  rcases way with ⟨_, hR⟩ | ⟨st, _, hst, hoff, hseg, hR⟩
  · rw [hR]; exact hM
  · rw [hR, ← hM]
    constructor
    · rintro (h | ⟨m, h1, h2, h3⟩)
      · exact h
      · -- what matches further on, over parts without a star up to this one, is this star's too
        have e : l.drop (st + 1) = (l.drop (st + 1)).take (k - (st + 1)) ++ l.drop k := by
          conv => lhs; rw [← List.take_append_drop (k - (st + 1)) (l.drop (st + 1))]
          rw [List.drop_drop, show st + 1 + (k - (st + 1)) = k by omega]
        rw [e] at h3
        have hlen : ((l.drop (st + 1)).take (k - (st + 1))).length = k - (st + 1) := by rw [List.length_take, List.length_drop]; omega
        have hm3 := matchP_seg _ _ _ (fun q hq => by
          obtain ⟨j, hj, e⟩ := List.getElem_of_mem hq
          rw [hlen] at hj
          rw [List.getElem_take, List.getElem_drop] at e
          exact hseg (st + 1 + j) (by omega) (by omega) q (by rw [List.getElem?_eq_getElem (by omega), e])) h3
        rw [hlen, List.drop_drop] at hm3
        have h4 : m + (k - (st + 1)) ≤ s.length := by have := hm3.1; rw [List.length_drop] at this; omega
        rw [drop_cons hp, matchP_star hs, anyT_iff] at hm3 ⊢
        obtain ⟨_, n, hn, hx⟩ := hm3
        rw [List.length_drop] at hn
        refine ⟨m + (k - (st + 1)) + n - i, by rw [List.length_drop]; omega, ?_⟩
        rw [List.drop_drop] at hx ⊢
        rw [show i + (m + (k - (st + 1)) + n - i) = m + (k - (st + 1)) + n by omega]
        exact hx
    · exact .inl

theorem Greedy.fit {l : List Pt} {s : List UInt8} {R : Bool} {i k : Nat} {star : Int} {mark : Nat} (h : Greedy l s R i k star mark) {p : Pt} (hp : l[k]? = some p) (hs : p.kind ≠ 42) {c : UInt8} (hc : s[i]? = some c) (hf : fitsP p c = true) : Greedy l s R (i + 1) (k + 1) star mark := by
  obtain ⟨hi, hk, hm, way⟩ := h
  have hk' := (List.getElem?_eq_some_iff.1 hp).1
  have hi' := (List.getElem?_eq_some_iff.1 hc).1
  have hM : matchP (l.drop k) (s.drop i) = matchP (l.drop (k + 1)) (s.drop (i + 1)) := by rw [drop_cons hp, drop_cons hc, matchP_cons hs, hf, Bool.true_and]
  refine ⟨hi', hk', by omega, ?_⟩
  rcases way with ⟨h1, hR⟩ | ⟨st, h1, hst, hoff, hseg, hR⟩
  · exact .inl ⟨h1, by rw [hR, hM]⟩
  · refine .inr ⟨st, h1, by omega, by omega, fun j h2 h3 q hq => ?_, by rw [hR, hM]⟩
    by_cases e : j = k
    · subst e; rw [hp] at hq; cases hq; exact hs
    · exact hseg j h2 (by omega) q hq

theorem Greedy.yes {l : List Pt} {s : List UInt8} {R : Bool} {i k : Nat} {star : Int} {mark : Nat} (h : Greedy l s R i k star mark) (hi : i = s.length) (hk : k = l.length) : R = true := by
  have hM : matchP (l.drop k) (s.drop i) = true := by rw [hi, hk, List.drop_length, List.drop_length]; rfl
  rcases h.way with ⟨_, hR⟩ | ⟨_, _, _, _, _, hR⟩
  · rw [hR, hM]
  · exact hR.2 (.inl hM)

/-- Neither a star, nor a part that fits, nor the end of both. -/
theorem no_way {l : List Pt} {s : List UInt8} {i k : Nat} (hi : i ≤ s.length) (hk : k ≤ l.length) (h1 : ∀ p, l[k]? = some p → p.kind ≠ 42) (h2 : ∀ p c, l[k]? = some p → s[i]? = some c → fitsP p c = false) (h3 : ¬ (i = s.length ∧ k = l.length)) :
    matchP (l.drop k) (s.drop i) = false := by
  rcases Nat.lt_or_ge k l.length with hk' | hk'
  · have hp : l[k]? = some l[k] := List.getElem?_eq_getElem hk'
    rw [drop_cons hp]
    rcases Nat.lt_or_ge i s.length with hi' | hi'
    · have hc : s[i]? = some s[i] := List.getElem?_eq_getElem hi'
      rw [drop_cons hc, matchP_cons (h1 _ hp), h2 _ _ hp hc, Bool.false_and]
    · rw [List.drop_of_length_le hi', matchP_end (h1 _ hp)]
  · rw [List.drop_of_length_le hk', matchP_nil]
    rcases Nat.lt_or_ge i s.length with hi' | hi'
    · rw [List.drop_eq_getElem_cons hi']; rfl
    · exact absurd ⟨by omega, by omega⟩ h3

theorem Greedy.back {l : List Pt} {s : List UInt8} {R : Bool} {i k : Nat} {star : Int} {mark : Nat} (h : Greedy l s R i k star mark) (hno : matchP (l.drop k) (s.drop i) = false) {st : Nat} (hst : star = st) (hm : mark < s.length) : Greedy l s R (mark + 1) (st + 1) star (mark + 1) := by
  obtain ⟨hi, hk, hm', way⟩ := h
  rcases way with ⟨h1, _⟩ | ⟨st', h1, hst', hoff, hseg, hR⟩
  · omega
  · obtain rfl : st' = st := by omega
    refine ⟨hm, by omega, Nat.le_refl _, .inr ⟨st', h1, by omega, by omega, fun j h2 h3 => by omega, ?_⟩⟩
    rw [hR, hno]
    constructor
    · rintro (h | ⟨m, h2, h3, h4⟩)
      · cases h
      · by_cases e : m = mark + 1
        · subst e; exact .inl h4
        · exact .inr ⟨m, by omega, h3, h4⟩
    · rintro (h | ⟨m, h2, h3, h4⟩)
      · exact .inr ⟨mark + 1, by omega, hm, h⟩
      · exact .inr ⟨m, by omega, h3, h4⟩

theorem Greedy.no {l : List Pt} {s : List UInt8} {R : Bool} {i k : Nat} {star : Int} {mark : Nat} (h : Greedy l s R i k star mark) (hno : matchP (l.drop k) (s.drop i) = false) (hm : star < 0 ∨ s.length ≤ mark) : R = false := by
  rcases h.way with ⟨h1, hR⟩ | ⟨st', h1, _, _, _, hR⟩
  · rw [hR, hno]
  · rcases hm with hm | hm
    · omega
    · rw [Bool.eq_false_iff]
      intro hr
      rcases hR.1 hr with h2 | ⟨m, h2, h3, _⟩
      · rw [hno] at h2; cases h2
      · omega
end Go.Proofs.Ytiacoomeakodnaa
