/-
  Quoted words, plain: which bytes mean nothing but themselves, how a word is quoted, what is read.
-/
import Derived.Test.YtfeejbmpnphnhaaDoorLib
import Derived.Lib.Replace
import Derived.Lib.IndexLaws
import Derived.Lib.IndexBytes
namespace Go.Proofs.YtfeejbmpnphnhaaDoor
open Go.RowKit

def hasB (l : List UInt8) (c : UInt8) : Bool := l.contains c
theorem hasB_nil (c : UInt8) : hasB [] c = false := rfl
theorem hasB_same (c : UInt8) (l : List UInt8) : hasB (c :: l) c = true := by simp [hasB]
theorem hasB_cons {c d : UInt8} (l : List UInt8) (h : d ≠ c) : hasB (d :: l) c = hasB l c := by
  simp [hasB, Ne.symm h]

def others : List UInt8 := [95, 46, 47, 44, 43, 45, 58, 64]
def alnumB (c : UInt8) : Bool := (decide (97 ≤ c.toNat) && decide (c.toNat ≤ 122)) || (decide (65 ≤ c.toNat) && decide (c.toNat ≤ 90)) || (decide (48 ≤ c.toNat) && decide (c.toNat ≤ 57))
def safeB (c : UInt8) : Bool := alnumB c || hasB others c
theorem safe_ne {c : UInt8} (h : safeB c = true) : c ≠ 39 ∧ c ≠ 92 := by
  constructor <;> (rintro rfl; revert h; decide)

def bareB (l : List UInt8) : Bool := !l.isEmpty && l.all safeB
def escL : List UInt8 → List UInt8
  | [] => []
  | c :: l => (if c = 39 then [39, 92, 39, 39] else [c]) ++ escL l
def singleL (l : List UInt8) : List UInt8 := [39] ++ escL l ++ [39]
def wordL (l : List UInt8) : List UInt8 := if bareB l = true then l else singleL l
theorem escL_len : ∀ l, (escL l).length ≤ 4 * l.length
  | [] => Nat.le_refl _
  | c :: l => by
    have := escL_len l
    rw [escL, List.length_append, List.length_cons]
    split <;> simp <;> omega
theorem singleL_len (l : List UInt8) : (singleL l).length ≤ 4 * l.length + 2 := by
  have := escL_len l
  simp [singleL]; omega
theorem wordL_len (l : List UInt8) : (wordL l).length ≤ 4 * l.length + 2 := by
  rw [wordL]; split
  · omega
  · exact singleL_len l
theorem escL_app (a b : List UInt8) : escL (a ++ b) = escL a ++ escL b := by
  induction a with
  | nil => rfl
  | cons c a ih => rw [List.cons_append, escL, escL, ih, List.append_assoc]
theorem escL_no {l : List UInt8} (h : (39 : UInt8) ∉ l) : escL l = l := by
  induction l with
  | nil => rfl
  | cons c l ih =>
    rw [escL, if_neg (fun e => h (by simp [e])), ih (fun h' => h (by simp [h']))]; rfl

/-- strings.ReplaceAll of a quote. -/
theorem replace_esc : ∀ (n : Nat) (l : List UInt8), l.length ≤ n → Lib.replaceK [39] [39, 92, 39, 39] (Lib.count l [39]) l = escL l
  | n, l, hn => by
    by_cases h : Lib.indexByte l 39 < 0
    · have h1 : Lib.indexByte l 39 = -1 := by have := Lib.indexByte_ge l 39; omega
      have hno : (39 : UInt8) ∉ l := fun hm => by
        obtain ⟨k, hk, e⟩ := List.getElem_of_mem hm
        exact Lib.indexByte_none h1 k (by rw [List.getElem?_eq_getElem hk, e])
      rw [Lib.count_miss (by rw [Lib.index_one]; exact h1), escL_no hno]; rfl
    · obtain ⟨o, ho⟩ := Int.eq_ofNat_of_zero_le (Int.not_lt.1 h)
      obtain ⟨h1, h2⟩ := Lib.indexByte_some ho
      have hidx : Lib.index l [39] = o := by rw [Lib.index_one]; exact ho
      have hol : o < l.length := (List.getElem?_eq_some_iff.1 h1).1
      have el : l = l.take o ++ 39 :: l.drop (o + 1) := by
        have := (List.getElem?_eq_some_iff.1 h1).2
        conv => rhs; rw [← this]
        rw [← List.drop_eq_getElem_cons hol, List.take_append_drop]
      have hno : (39 : UInt8) ∉ l.take o := fun hm => by
        obtain ⟨k, hk, e⟩ := List.getElem_of_mem hm
        have hko : k < o := by rw [List.length_take] at hk; omega
        refine h2 k hko ?_
        rw [List.getElem_take] at e
        rw [List.getElem?_eq_getElem (by omega), e]
      match n, hn with
      | 0, hn => omega
      | n + 1, hn =>
        have ih := replace_esc n (l.drop (o + 1)) (by rw [List.length_drop]; omega)
        rw [Lib.count_hit (by simp) hidx, Nat.add_comm 1, Lib.replaceK_hit _ _ _ _ o hidx]
        conv => rhs; rw [el]
        rw [escL_app, escL_no hno, escL, if_pos rfl, show o + ([39] : List UInt8).length = o + 1 from rfl, ih, List.append_assoc]

theorem replaceAll_esc (l : List UInt8) : Lib.replaceAll l [39] [39, 92, 39, 39] = escL l := by
  rw [Lib.replaceAll, Lib.replace, if_neg (by decide), Lib.replaceNum, if_pos (.inl (by decide))]
  exact replace_esc _ l (Nat.le_refl _)

/-- What is read; true: within quotes. -/
def rdM : Bool → List UInt8 → Option (List UInt8)
  | false, [] => some []
  | true, [] => none
  | true, c :: r => if c = 39 then rdM false r else (rdM true r).map (c :: ·)
  | false, [c] => if c = 39 then rdM true [] else if safeB c = true then (rdM false []).map (c :: ·) else none
  | false, c :: d :: r => if c = 39 then rdM true (d :: r) else if c = 92 ∧ d = 39 then (rdM false r).map (39 :: ·) else if safeB c = true then (rdM false (d :: r)).map (c :: ·) else none

theorem rdM_quote (r : List UInt8) : rdM false (39 :: r) = rdM true r := by
  cases r with
  | nil => conv => lhs; rw [rdM, if_pos rfl]
  | cons d r => conv => lhs; rw [rdM, if_pos rfl]
theorem rdM_back (r : List UInt8) : rdM false (92 :: 39 :: r) = (rdM false r).map (39 :: ·) := by
  rw [rdM, if_neg (by decide), if_pos ⟨rfl, rfl⟩]
theorem rdM_safe {c : UInt8} (h : safeB c = true) (r : List UInt8) : rdM false (c :: r) = (rdM false r).map (c :: ·) := by
  obtain ⟨h1, h2⟩ := safe_ne h
  cases r with
  | nil => conv => lhs; rw [rdM, if_neg h1, if_pos h]
  | cons d r => conv => lhs; rw [rdM, if_neg h1, if_neg (fun e => h2 e.1), if_pos h]
theorem rdM_no {c : UInt8} (r : List UInt8) (h1 : c ≠ 39) (h2 : ¬ (c = 92 ∧ r.head? = some 39)) (h : safeB c = false) : rdM false (c :: r) = none := by
  cases r with
  | nil => rw [rdM, if_neg h1, if_neg (by rw [h]; decide)]
  | cons d r => rw [rdM, if_neg h1, if_neg (fun e => h2 ⟨e.1, by rw [e.2]; rfl⟩), if_neg (by rw [h]; decide)]
theorem rdM_end (r : List UInt8) : rdM true (39 :: r) = rdM false r := by rw [rdM, if_pos rfl]
theorem rdM_in {c : UInt8} (h : c ≠ 39) (r : List UInt8) : rdM true (c :: r) = (rdM true r).map (c :: ·) := by rw [rdM, if_neg h]

theorem map_cons_app (c : UInt8) (a : List UInt8) (o : Option (List UInt8)) : (o.map (a ++ ·)).map (c :: ·) = o.map ((c :: a) ++ ·) := by
  rw [Option.map_map]; rfl

theorem rd_esc (r : List UInt8) : ∀ l, rdM true (escL l ++ 39 :: r) = (rdM false r).map (l ++ ·)
  | [] => by
    rw [escL, List.nil_append, rdM_end]
    cases rdM false r <;> rfl
  | c :: l => by
    rw [escL]
    split
    · rename_i h
      subst h
      show rdM true (39 :: 92 :: 39 :: 39 :: (escL l ++ 39 :: r)) = _
      rw [rdM_end, rdM_back, rdM_quote, rd_esc r l, map_cons_app]
    · rename_i h
      show rdM true (c :: (escL l ++ 39 :: r)) = _
      rw [rdM_in h, rd_esc r l, map_cons_app]
theorem rd_single (l r : List UInt8) : rdM false (singleL l ++ r) = (rdM false r).map (l ++ ·) := by
  rw [singleL, List.append_assoc, List.append_assoc]
  show rdM false (39 :: (escL l ++ 39 :: r)) = _
  rw [rdM_quote, rd_esc]
theorem rd_bare (r : List UInt8) : ∀ l, l.all safeB = true → rdM false (l ++ r) = (rdM false r).map (l ++ ·)
  | [], _ => by
    rw [List.nil_append]
    cases rdM false r <;> rfl
  | c :: l, h => by
    rw [List.all_cons, Bool.and_eq_true] at h
    rw [List.cons_append, rdM_safe h.1, rd_bare r l h.2, map_cons_app]
theorem rd_word (l r : List UInt8) : rdM false (wordL l ++ r) = (rdM false r).map (l ++ ·) := by
  rw [wordL]
  split
  · rename_i h
    rw [bareB, Bool.and_eq_true] at h
    exact rd_bare r l h.2
  · exact rd_single l r

/-- The word that is quoted so. -/
def readL (q : List UInt8) : Option (List UInt8) := if q = [] then none else rdM false q
theorem single_ne (l : List UInt8) : singleL l ≠ [] := by simp [singleL]
theorem word_ne (l : List UInt8) : wordL l ≠ [] := by
  rw [wordL]
  split
  · rename_i h
    intro e
    subst e
    simp [bareB] at h
  · exact single_ne l
theorem read_word (l : List UInt8) : readL (wordL l) = some l := by
  rw [readL, if_neg (word_ne l)]
  have := rd_word l []
  rw [List.append_nil] at this
  rw [this]; simp [rdM]
theorem read_single (l : List UInt8) : readL (singleL l) = some l := by
  rw [readL, if_neg (single_ne l)]
  have := rd_single l []
  rw [List.append_nil] at this
  rw [this]; simp [rdM]
theorem read_words (a b : List UInt8) : readL (wordL a ++ wordL b) = some (a ++ b) := by
  rw [readL, if_neg (by simp [word_ne])]
  have := rd_word b []
  rw [List.append_nil] at this
  rw [rd_word, this]; simp [rdM]
theorem read_singles (a b : List UInt8) : readL (singleL a ++ singleL b) = some (a ++ b) := by
  rw [readL, if_neg (by simp [single_ne])]
  have := rd_single b []
  rw [List.append_nil] at this
  rw [rd_single, this]; simp [rdM]

/-- Within quotes, at once up to the next one. -/
theorem rd_upto : ∀ (o : Nat) (r : List UInt8), r[o]? = some 39 → (∀ k, k < o → r[k]? ≠ some 39) → rdM true r = (rdM false (r.drop (o + 1))).map (r.take o ++ ·)
  | o, [], h, _ => by simp at h
  | 0, c :: r, h, _ => by
    simp at h
    subst h
    rw [rdM_end]
    show _ = (rdM false r).map ([] ++ ·)
    cases rdM false r <;> rfl
  | o + 1, c :: r, h, h2 => by
    have hc : c ≠ 39 := fun e => h2 0 (by omega) (by rw [e]; rfl)
    rw [rdM_in hc, rd_upto o r (by simpa using h) (fun k hk => by have := h2 (k + 1) (by omega); simpa using this), map_cons_app]
    rfl
theorem rd_never : ∀ (r : List UInt8), (∀ k : Nat, r[k]? ≠ some 39) → rdM true r = none
  | [], _ => rfl
  | c :: r, h => by
    have hc : c ≠ 39 := fun e => h 0 (by rw [e]; rfl)
    rw [rdM_in hc, rd_never r (fun k => by have := h (k + 1); simpa using this)]; rfl
end Go.Proofs.YtfeejbmpnphnhaaDoor
