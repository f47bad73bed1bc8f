/-
  Trees of files, plain: items, what is wrong with one, where a path stands, what the program's maps hold.
-/
import Derived.Test.YtdelgbkllnccoaaDoorP9
import Derived.Sort.Walk0
namespace Go.Proofs.YtdelgbkllnccoaaDoor
open Go.RowKit

/-- An item. -/
structure It where
  p : ByteArray
  k : Int
  m : Int
  d : ByteArray
  s : ByteArray
def It0 : It := ⟨⟨#[]⟩, 0, 0, ⟨#[]⟩, ⟨#[]⟩⟩
def itC (x : It) : List Value := [.string x.p, .int .i64 x.k, .int .i64 x.m, .string x.d, .string x.s]
def itV (x : It) : Value := .agg #[.string x.p, .int .i64 x.k, .int .i64 x.m, .string x.d, .string x.s]
theorem itC_len (x : It) : (itC x).length = 5 := rfl

/-- What is wrong with an item by itself. -/
def bodyE (x : It) : Int :=
  if (x.k = 2 ∧ L x.d ≠ []) ∨ (x.k ≠ 1 ∧ L x.s ≠ []) then 43
  else if (x.k = 1 ∧ 4194304 < x.d.size) ∨ (x.k = 3 ∧ 4095 < x.d.size) then 18
  else if x.k = 3 ∧ rightB (L x.d) = false then 11 else 0
def aloneE (x : It) : Int :=
  if plainB x.p = false then 11
  else if x.k < 1 ∨ 3 < x.k then 43
  else if x.m < 0 ∨ 4095 < x.m ∨ (x.k = 3 ∧ x.m ≠ 511) then 10
  else bodyE x

/-- What stands ahead of a path's last slash. -/
def upL (l : List UInt8) : List UInt8 := if lastL l < 0 then [] else l.take (lastL l).toNat
theorem up_cases {s : ByteArray} (h : plainB s = true) : (dirL (L s) = [46] ∧ upL (L s) = []) ∨ (dirL (L s) ≠ [46] ∧ dirL (L s) = upL (L s) ∧ upL (L s) ≠ []) := by
  obtain ⟨hn, _⟩ := plainB_names.1 h
  obtain ⟨h1, h2⟩ := namesL_facts hn
  have hb := bareL_id h2
  have h47 : L s ≠ [47] := fun e => h2 (by rw [e]; rfl)
  rcases slTo_last (L s) s.size with ⟨e1, e2⟩ | ⟨v, e1, e2, e3, e4⟩
  · left
    have e1' : lastL (L s) = -1 := e1
    exact ⟨by rw [dirL, hb, if_neg h47, e1', if_pos (by decide)], by rw [upL, e1']; rfl⟩
  · right
    have e1' : lastL (L s) = v := e1
    have ht := namesL_take hn (show v < (L s).length from e2) e3
    obtain ⟨t1, t2⟩ := namesL_facts ht
    have hd : dirL (L s) = (L s).take v := by
      rw [dirL, hb, if_neg h47, e1', if_neg (by omega), show ((v : Int) + 1).toNat = v + 1 by omega]
      have : (L s).take (v + 1) = (L s).take v ++ [47] := by
        rw [List.take_add_one, ← e3]
        congr 1
        simp [List.getD, List.getElem?_eq_getElem (show v < (L s).length from e2)]
      rw [this, bareL_snoc t1 t2]
    have hu : upL (L s) = (L s).take v := by rw [upL, e1', if_neg (by omega)]; rfl
    refine ⟨fun e => ?_, by rw [hd, hu], by rw [hu]; exact t1⟩
    rw [hd] at e
    have := ht [46] (by rw [e]; simp [sp])
    exact absurd this (by decide)

/-- The place of a path. -/
def findI (l : List It) (t : List UInt8) : Option Nat := l.findIdx? (fun x => decide (L x.p = t))
def findV (l : List It) (t : List UInt8) : Option It := l.find? (fun x => decide (L x.p = t))
def findZ (l : List It) (t : List UInt8) : Int := match findI l t with | some i => (i : Int) | none => -1
theorem findV_eq (l : List It) (t : List UInt8) : findV l t = (findI l t).bind (fun i => l[i]?) := List.find?_eq_bind_findIdx?_getElem?
theorem findI_some {l : List It} {t : List UInt8} {i : Nat} (h : findI l t = some i) : ∃ x, l[i]? = some x ∧ L x.p = t ∧ ∀ j, j < i → ∀ y, l[j]? = some y → L y.p ≠ t := by
  obtain ⟨hi, h1, h2⟩ := List.findIdx?_eq_some_iff_getElem.1 h
  refine ⟨l[i], List.getElem?_eq_getElem hi, by simpa using h1, fun j hj y hy => ?_⟩
  obtain ⟨hjl, rfl⟩ := List.getElem?_eq_some_iff.1 hy
  simpa using h2 j hj
theorem findI_none {l : List It} {t : List UInt8} (h : findI l t = none) : ∀ x ∈ l, L x.p ≠ t := by
  intro x hx
  simpa using List.findIdx?_eq_none_iff.1 h x hx
theorem findI_at {l : List It} {t : List UInt8} {i : Nat} {x : It} (hx : l[i]? = some x) (hp : L x.p = t) (hno : ∀ j, j < i → ∀ y, l[j]? = some y → L y.p ≠ t) : findI l t = some i := by
  obtain ⟨hi, rfl⟩ := List.getElem?_eq_some_iff.1 hx
  exact List.findIdx?_eq_some_iff_getElem.2 ⟨hi, by simpa using hp, fun j hj => by simpa using hno j hj _ (List.getElem?_eq_getElem (by omega))⟩
theorem findI_end {l : List It} {t : List UInt8} (hno : ∀ j, j < l.length → ∀ y, l[j]? = some y → L y.p ≠ t) : findI l t = none := by
  refine List.findIdx?_eq_none_iff.2 fun x hx => ?_
  obtain ⟨j, hj, e⟩ := List.getElem_of_mem hx
  simpa using hno j hj x (by rw [List.getElem?_eq_getElem hj, e])

/-- What is wrong with the i-th item, which is x, behind those ahead of it (the one just ahead has path q). -/
def linkE (l : List It) (x : It) : Int :=
  if L x.s = [] then 0 else match findV l (L x.s) with
    | some o => if o.k ≠ 1 ∨ L o.s ≠ [] ∨ o.m ≠ x.m ∨ L x.d ≠ [] then 22 else 0
    | none => 22
def upE (l : List It) (x : It) : Int :=
  if upL (L x.p) = [] then linkE l x else match findV l (upL (L x.p)) with
    | some o => if o.k ≠ 2 then 14 else linkE l x
    | none => 14
def lastP (l : List It) : List UInt8 := match l.getLast? with | some y => L y.p | none => []
def nextE (l : List It) (x : It) : Int :=
  if aloneE x ≠ 0 then aloneE x else if ¬ lastP l < L x.p then 13 else upE l x
def itE (l : List It) (i : Nat) : Int := match l[i]? with | some x => nextE (l.take i) x | none => 0
def okTo (l : List It) (n : Nat) : Prop := ∀ i, i < n → itE l i = 0
theorem itE_at {l : List It} {i : Nat} {x : It} (h : l[i]? = some x) : itE l i = nextE (l.take i) x := by rw [itE, h]
theorem lastP_snoc (l : List It) (x : It) : lastP (l ++ [x]) = L x.p := by simp [lastP]
theorem okTo_succ {l : List It} {n : Nat} (h : okTo l n) (he : itE l n = 0) : okTo l (n + 1) := fun i hi => by
  by_cases h1 : i < n
  · exact h i h1
  · obtain rfl : i = n := by omega
    exact he

/-- An error, and of which item. -/
def Chk (l : List It) (e : Int) (i : Nat) : Prop := (l = [] ∧ e = 12 ∧ i = 0) ∨ (l ≠ [] ∧ okTo l l.length ∧ e = 0 ∧ i = 0) ∨ (i < l.length ∧ okTo l i ∧ e = itE l i ∧ e ≠ 0)
theorem Chk.same {l : List It} {e f : Int} {i j : Nat} (h : Chk l e i) (h' : Chk l f j) : e = f ∧ i = j := by
  rcases h with ⟨h1, h2, h3⟩ | ⟨h1, h2, h3, h4⟩ | ⟨h1, h2, h3, h4⟩
  · rcases h' with ⟨g1, g2, g3⟩ | ⟨g1, _⟩ | ⟨g1, _⟩
    · omega
    · exact absurd h1 g1
    · rw [h1] at g1; simp at g1
  · rcases h' with ⟨g1, _⟩ | ⟨g1, g2, g3, g4⟩ | ⟨g1, g2, g3, g4⟩
    · exact absurd g1 h1
    · omega
    · exact absurd (g3.trans (h2 j g1)) g4
  · rcases h' with ⟨g1, _⟩ | ⟨g1, g2, g3, g4⟩ | ⟨g1, g2, g3, g4⟩
    · rw [g1] at h1; simp at h1
    · exact absurd (h3.trans (g2 i h1)) h4
    · have : i = j := by
        rcases Nat.lt_trichotomy i j with h | h | h
        · exact absurd (h3.trans (g2 i h)) h4
        · exact h
        · exact absurd (g3.trans (h2 j h)) g4
      subst this
      exact ⟨by rw [h3, g3], rfl⟩

/-! ### rising paths -/
theorem lt_irrefl' (l : List UInt8) : ¬ l < l := List.lt_irrefl l
theorem lt_trans' {a b c : List UInt8} (h : a < b) (h' : b < c) : a < c := List.lt_trans h h'
theorem ok_alone {l : List It} {n i : Nat} {x : It} (h : okTo l n) (hi : i < n) (hx : l[i]? = some x) : aloneE x = 0 := by
  have := h i hi
  rw [itE_at hx, nextE] at this
  by_cases h0 : aloneE x = 0
  · exact h0
  · rw [if_pos h0] at this; exact absurd this h0
theorem ok_rises {l : List It} {n i : Nat} {x y : It} (h : okTo l n) (hi : i + 1 < n) (hx : l[i]? = some x) (hy : l[i + 1]? = some y) : L x.p < L y.p := by
  have h1 := h (i + 1) hi
  rw [itE_at hy, nextE, if_neg (by rw [ok_alone h hi hy]; simp)] at h1
  have h2 : lastP (l.take (i + 1)) = L x.p := by
    obtain ⟨hl, rfl⟩ := List.getElem?_eq_some_iff.1 hx
    rw [List.take_succ_eq_append_getElem hl, lastP_snoc]
  rw [h2] at h1
  by_cases h3 : L x.p < L y.p
  · exact h3
  · rw [if_pos h3] at h1; cases h1
theorem ok_up {l : List It} {n : Nat} (h : okTo l n) : ∀ (j i : Nat) (x y : It), i < j → j < n → l[i]? = some x → l[j]? = some y → L x.p < L y.p := by
  intro j
  induction j with
  | zero => intro i x y hi; omega
  | succ j ih =>
    intro i x y hi hj hx hy
    by_cases hij : i = j
    · subst hij; exact ok_rises h hj hx hy
    · have hjl : j < l.length := by have := (List.getElem?_eq_some_iff.1 hy).1; omega
      exact lt_trans' (ih i x l[j] (by omega) (by omega) hx (List.getElem?_eq_getElem hjl)) (ok_rises h hj (List.getElem?_eq_getElem hjl) hy)
theorem ok_ne {l : List It} {n : Nat} (h : okTo l n) {i j : Nat} {x y : It} (hij : i ≠ j) (hi : i < n) (hj : j < n) (hx : l[i]? = some x) (hy : l[j]? = some y) : L x.p ≠ L y.p := fun e => by
  rcases Nat.lt_or_gt_of_ne hij with h1 | h1
  · have := ok_up h j i x y h1 hj hx hy
    rw [e] at this
    exact lt_irrefl' _ this
  · have := ok_up h i j y x h1 hi hy hx
    rw [e] at this
    exact lt_irrefl' _ this

/-! ### the program's maps -/
def kM : List It → List UInt8 → Option It
  | l, t => (l.foldl (fun (m : List UInt8 → Option It) x t => if t = L x.p then some x else m t) (fun _ => none)) t
def fM : List It → List UInt8 → Option It
  | l, t => (l.foldl (fun (m : List UInt8 → Option It) x t => if (L x.s = [] ∧ x.k = 1) ∧ t = L x.p then some x else m t) (fun _ => none)) t
theorem kM_snoc (l : List It) (x : It) (t : List UInt8) : kM (l ++ [x]) t = if t = L x.p then some x else kM l t := by rw [kM, List.foldl_append]; rfl
theorem fM_snoc (l : List It) (x : It) (t : List UInt8) : fM (l ++ [x]) t = if (L x.s = [] ∧ x.k = 1) ∧ t = L x.p then some x else fM l t := by rw [fM, List.foldl_append]; rfl
theorem findV_snoc (l : List It) (x : It) (t : List UInt8) : findV (l ++ [x]) t = match findV l t with | some y => some y | none => if L x.p = t then some x else none := by
  rw [findV, findV, List.find?_append]
  cases h : l.find? (fun x => decide (L x.p = t)) with
  | some y => rfl
  | none => by_cases e : L x.p = t <;> simp [e]
theorem findV_none_of {l : List It} {n : Nat} {x : It} (h : okTo l (n + 1)) (hx : l[n]? = some x) : findV (l.take n) (L x.p) = none := by
  rw [findV, List.find?_eq_none]
  intro y hy
  obtain ⟨j, hj, e⟩ := List.getElem_of_mem hy
  have hjn : j < n := by rw [List.length_take] at hj; omega
  rw [List.getElem_take] at e
  have hy' : l[j]? = some y := by rw [← e]; exact List.getElem?_eq_getElem (by rw [List.length_take] at hj; omega)
  simpa using ok_ne h (show j ≠ n by omega) (by omega) (by omega) hy' hx
theorem kM_find {l : List It} : ∀ (n : Nat), n ≤ l.length → okTo l n → ∀ t, kM (l.take n) t = findV (l.take n) t
  | 0, _, _, t => rfl
  | n + 1, hn, h, t => by
    have hx : l[n]? = some l[n] := List.getElem?_eq_getElem (by omega)
    have ih := kM_find n (by omega) (fun i hi => h i (by omega)) t
    rw [List.take_succ_eq_append_getElem (by omega), kM_snoc, findV_snoc, ih]
    by_cases e : t = L l[n].p
    · subst e
      rw [findV_none_of h hx, if_pos rfl]
    · rw [if_neg e]
      cases findV (l.take n) t with
      | some y => rfl
      | none => rw [if_neg (Ne.symm e)]
theorem fM_find {l : List It} : ∀ (n : Nat), n ≤ l.length → okTo l n → ∀ t, fM (l.take n) t = match findV (l.take n) t with | some x => if L x.s = [] ∧ x.k = 1 then some x else none | none => none
  | 0, _, _, t => rfl
  | n + 1, hn, h, t => by
    have hx : l[n]? = some l[n] := List.getElem?_eq_getElem (by omega)
    have ih := fM_find n (by omega) (fun i hi => h i (by omega)) t
    rw [List.take_succ_eq_append_getElem (by omega), fM_snoc, findV_snoc, ih]
    by_cases e : t = L l[n].p
    · subst e
      rw [findV_none_of h hx]; simp
    · rw [if_neg (fun h => e h.2)]
      cases findV (l.take n) t with
      | some y => rfl
      | none => rw [if_neg (Ne.symm e)]

/-- What add tells, by the maps. -/
def addLinkE (f : Option It) (x : It) : Int :=
  if L x.s = [] then 0 else match f with
    | some o => if o.m ≠ x.m ∨ L x.d ≠ [] then 22 else 0
    | none => 22
def addE (k : Option It) (f : Option It) (last : List UInt8) (x : It) : Int :=
  if aloneE x ≠ 0 then aloneE x else if ¬ last < L x.p then 13
  else if dirL (L x.p) ≠ [46] ∧ (match k with | some o => o.k | none => 0) ≠ 2 then 14 else addLinkE f x
theorem addE_itE {l : List It} {n : Nat} {x : It} (hx : l[n]? = some x) (h : okTo l n) :
    addE (kM (l.take n) (dirL (L x.p))) (fM (l.take n) (L x.s)) (lastP (l.take n)) x = itE l n := by
  have hn : n ≤ l.length := by have := (List.getElem?_eq_some_iff.1 hx).1; omega
  rw [itE_at hx, kM_find n hn h, fM_find n hn h]
  unfold addE nextE
  by_cases h1 : aloneE x = 0
  · have a1 : ¬ (aloneE x ≠ 0) := by simp [h1]
    rw [if_neg a1, if_neg a1]
    by_cases h2 : lastP (l.take n) < L x.p
    · have a2 : ¬ ¬ lastP (l.take n) < L x.p := fun h => h h2
      rw [if_neg a2, if_neg a2]
      have hpl : plainB x.p = true := by
        cases hp : plainB x.p with
        | true => rfl
        | false => rw [aloneE, if_pos hp] at h1; cases h1
      have hlink : addLinkE (match findV (l.take n) (L x.s) with | some x => if L x.s = [] ∧ x.k = 1 then some x else none | none => none) x = linkE (l.take n) x := by
        unfold addLinkE linkE
        by_cases h3 : L x.s = []
        · rw [if_pos h3, if_pos h3]
        · rw [if_neg h3, if_neg h3]
          cases findV (l.take n) (L x.s) with
          | none => rfl
          | some o =>
            by_cases h4 : L o.s = [] ∧ o.k = 1
            · simp [h4]
            · simp only [if_neg h4]
              rw [if_pos]
              by_cases h5 : o.k = 1
              · exact .inr (.inl fun e => h4 ⟨e, h5⟩)
              · exact .inl h5
      rw [hlink, upE]
      rcases up_cases hpl with ⟨u1, u2⟩ | ⟨u1, u2, u3⟩
      · have a3 : ¬ (dirL (L x.p) ≠ [46] ∧ (match findV (l.take n) (dirL (L x.p)) with | some o => o.k | none => 0) ≠ 2) := fun h => h.1 u1
        rw [if_pos u2, if_neg a3]
      · rw [if_neg u3, u2]
        cases findV (l.take n) (upL (L x.p)) with
        | none => rw [if_pos ⟨by rw [← u2]; exact u1, by decide⟩]
        | some o =>
          by_cases h6 : o.k = 2
          · have a4 : ¬ (upL (L x.p) ≠ [46] ∧ o.k ≠ 2) := fun h => h.2 h6
            show (if upL (L x.p) ≠ [46] ∧ o.k ≠ 2 then (14 : Int) else _) = (if o.k ≠ 2 then 14 else _)
            rw [if_neg a4, if_neg (fun h => h h6)]
          · show (if upL (L x.p) ≠ [46] ∧ o.k ≠ 2 then (14 : Int) else _) = (if o.k ≠ 2 then 14 else _)
            rw [if_pos ⟨by rw [← u2]; exact u1, h6⟩, if_pos h6]
    · rw [if_pos h2, if_pos h2]
  · rw [if_pos h1, if_pos h1]
end Go.Proofs.YtdelgbkllnccoaaDoor
