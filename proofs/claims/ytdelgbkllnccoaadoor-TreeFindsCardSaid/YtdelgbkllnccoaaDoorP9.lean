/-
  The plain law of PathBack.
-/
import Derived.Test.YtdelgbkllnccoaaDoorP7
namespace Go.Proofs.YtdelgbkllnccoaaDoor
open Go.RowKit

theorem sp_split (c : UInt8) : ∀ (a b : List UInt8), sp c (a ++ c :: b) = sp c a ++ sp c b
  | [], b => by
    show sp c (c :: b) = [] :: sp c b
    rw [sp, if_pos rfl]
  | d :: a, b => by
    rw [List.cons_append, sp, sp, sp_split c a b]
    split
    · rfl
    · cases h : sp c a with
      | nil => exact absurd h (sp_ne c a)
      | cons p ps => rfl

/-- The places of the slashes among the first n bytes. -/
def slTo (l : List UInt8) : Nat → List Nat
  | 0 => []
  | n + 1 => if l.getD n 0 = 47 then slTo l n ++ [n] else slTo l n
theorem slTo_mem (l : List UInt8) : ∀ n, ∀ j ∈ slTo l n, j < n ∧ l.getD j 0 = 47
  | 0, j, h => by simp [slTo] at h
  | n + 1, j, h => by
    rw [slTo] at h
    split at h
    · rename_i hc
      rcases List.mem_append.1 h with h | h
      · have := slTo_mem l n j h; exact ⟨by omega, this.2⟩
      · rw [List.mem_singleton.1 h]; exact ⟨by omega, hc⟩
    · have := slTo_mem l n j h; exact ⟨by omega, this.2⟩
theorem slTo_up (l : List UInt8) : ∀ n, (slTo l n).Pairwise (· < ·)
  | 0 => by simp [slTo]
  | n + 1 => by
    rw [slTo]
    split
    · exact List.pairwise_append.2 ⟨slTo_up l n, by simp, fun a ha b hb => by rw [List.mem_singleton.1 hb]; exact (slTo_mem l n a ha).1⟩
    · exact slTo_up l n
theorem slTo_last (l : List UInt8) : ∀ n, (lastTo l n = -1 ∧ slTo l n = []) ∨ ∃ v : Nat, lastTo l n = v ∧ v < n ∧ l.getD v 0 = 47 ∧ (slTo l n).getLast? = some v
  | 0 => .inl ⟨rfl, rfl⟩
  | n + 1 => by
    rw [slTo, lastTo]
    split
    · rename_i h
      exact .inr ⟨n, rfl, by omega, h, by simp⟩
    · rcases slTo_last l n with h | ⟨v, h1, h2, h3, h4⟩
      · exact .inl h
      · exact .inr ⟨v, h1, by omega, h3, h4⟩
theorem above_sl (s : ByteArray) : ∀ n, aboveTo s n = (slTo (L s) n).map (s.extract 0 ·)
  | 0 => rfl
  | n + 1 => by
    rw [aboveTo, slTo, above_sl s n]
    split <;> simp
theorem pieces_sl (s : ByteArray) : ∀ n, (piecesTo s n).1.length = (slTo (L s) n).length
  | 0 => rfl
  | n + 1 => by
    rw [piecesTo, slTo]
    split <;> simp [pieces_sl s n]

def namesL (l : List UInt8) : Prop := ∀ p ∈ sp 47 l, nameB p = true
theorem namesL_facts {l : List UInt8} (h : namesL l) : l ≠ [] ∧ l.getD (l.length - 1) 0 ≠ 47 := by
  refine ⟨fun e => ?_, fun e => ?_⟩
  · subst e; exact absurd (h [] (by simp [sp])) (by decide)
  · by_cases h0 : l = []
    · subst h0; simp [List.getD] at e
    · have el : l = l.dropLast ++ 47 :: [] := by
        rw [← e]
        conv => lhs; rw [← List.dropLast_concat_getLast h0]
        rw [List.getLast_eq_getElem h0]
        congr 2
        simp [List.getD, List.getElem?_eq_getElem (show l.length - 1 < l.length from by have := List.length_pos_iff.2 h0; omega)]
      have : [] ∈ sp 47 l := by rw [el, sp_split]; simp [sp]
      exact absurd (h [] this) (by decide)
theorem at_slash {l : List UInt8} {j : Nat} (hj : j < l.length) (hc : l.getD j 0 = 47) : l = l.take j ++ 47 :: l.drop (j + 1) := by
  rw [← hc, ← drop_getD l hj, List.take_append_drop]
theorem namesL_take {l : List UInt8} (h : namesL l) {j : Nat} (hj : j < l.length) (hc : l.getD j 0 = 47) : namesL (l.take j) := fun p hp => h p (by rw [at_slash hj hc, sp_split]; exact List.mem_append.2 (.inl hp))

theorem plainB_names {s : ByteArray} : plainB s = true ↔ namesL (L s) ∧ rightB (L s) = true := by
  rw [plainB, piecesS_sp, Bool.and_eq_true, List.all_eq_true]
  refine and_congr_left fun _ => ⟨fun h p hp => ?_, fun h x hx => ?_⟩
  · exact h (S p) (List.mem_map.2 ⟨p, hp, rfl⟩)
  · obtain ⟨p, hp, rfl⟩ := List.mem_map.1 hx; exact h p hp

theorem rightB_take {l : List UInt8} (h : rightB l = true) {j : Nat} (hne : l.take j ≠ []) : rightB (l.take j) = true := by
  simp only [rightB, Bool.and_eq_true, decide_eq_true_eq, Bool.not_eq_true'] at h ⊢
  obtain ⟨⟨_, h2⟩, h3⟩ := h
  refine ⟨⟨by simpa using hne, by rw [List.length_take]; omega⟩, ?_⟩
  rw [List.contains_eq_mem, decide_eq_false_iff_not] at h3 ⊢
  exact fun hm => h3 (List.mem_of_mem_take hm)

theorem getD_take {l : List UInt8} {i j : Nat} (h : i < j) : (l.take j).getD i 0 = l.getD i 0 := by
  simp only [List.getD]; rw [List.getElem?_take_of_lt h]

theorem under_take {l : List UInt8} {j : Nat} (hj : j < l.length) (hc : l.getD j 0 = 47) : underB l (l.take j) = true := by
  rw [underB, List.length_take, Nat.min_eq_left (by omega), decide_eq_true hj, hc]
  simp

theorem bareL_snoc {a : List UInt8} (ha : a ≠ []) (ha2 : a.getD (a.length - 1) 0 ≠ 47) : bareL (a ++ [47]) = a := by
  have hap := List.length_pos_iff.2 ha
  have e : (a ++ [47]).length = a.length + 1 := by simp
  rw [bareL, e, cutTo_step (a ++ [47]) a.length ⟨hap, by rw [getD_app_right (Nat.le_refl _), Nat.sub_self]; rfl⟩]
  obtain ⟨m, hm⟩ : ∃ m, a.length = m + 1 := ⟨a.length - 1, by omega⟩
  rw [hm, cutTo_stop (a ++ [47]) m (fun h => ha2 (by
    have := h.2
    rw [getD_app_left (by omega)] at this
    rw [hm]; exact this)), ← hm, List.take_left]

theorem parts_all {s : ByteArray} (h : plainB s = true) : partsS s = piecesS s := by
  rw [partsS, partsTo, List.take_length, List.filter_eq_self]
  intro x hx
  have h1 := (List.all_eq_true.1 (by rw [plainB, Bool.and_eq_true] at h; exact h.1)) x hx
  have := (nameB_facts h1).1
  rw [someS, isEmpty_L]
  simpa using this

/-- A plain path, by its last slash. -/
theorem back_cases {s : ByteArray} (h : plainB s = true) :
    (dirL (L s) = [46] ∧ baseL (L s) = L s ∧ slTo (L s) s.size = []) ∨
    ∃ v : Nat, v < s.size ∧ (L s).getD v 0 = 47 ∧ (slTo (L s) s.size).getLast? = some v ∧ dirL (L s) = (L s).take v ∧ baseL (L s) = (L s).drop (v + 1) ∧ dirL (L s) ≠ [46] := by
  obtain ⟨hn, hr⟩ := plainB_names.1 h
  obtain ⟨h1, h2⟩ := namesL_facts hn
  have hb := bareL_id h2
  have h47 : L s ≠ [47] := fun e => h2 (by rw [e]; rfl)
  rcases slTo_last (L s) s.size with ⟨e1, e2⟩ | ⟨v, e1, e2, e3, e4⟩
  · left
    have e1' : lastL (L s) = -1 := e1
    exact ⟨by rw [dirL, hb, if_neg h47, e1', if_pos (by decide)], by rw [baseL, hb, if_neg h47, e1']; rfl, e2⟩
  · right
    have e1' : lastL (L s) = v := e1
    have ht := namesL_take hn (show v < (L s).length from e2) e3
    obtain ⟨t1, t2⟩ := namesL_facts ht
    have hd : dirL (L s) = (L s).take v := by
      rw [dirL, hb, if_neg h47, e1', if_neg (by omega), show ((v : Int) + 1).toNat = v + 1 by omega]
      have : (L s).take (v + 1) = (L s).take v ++ [47] := by
        rw [List.take_add_one, ← e3]
        congr 1
        simp [List.getD, List.getElem?_eq_getElem (show v < (L s).length from e2)]
      rw [this, bareL_snoc t1 t2]
    refine ⟨v, e2, e3, e4, hd, by rw [baseL, hb, if_neg h47, e1', show ((v : Int) + 1).toNat = v + 1 by omega], fun e => ?_⟩
    rw [hd] at e
    have := ht [46] (by rw [e]; simp [sp])
    exact absurd this (by decide)

theorem back_law {s : ByteArray} (h : plainB s = true) (hne : dirL (L s) ≠ [46]) :
    (∀ (i : Nat) (x : ByteArray), (aboveTo s s.size)[i]? = some x → underB (L s) (L x) = true ∧ plainB x = true ∧ x.size ≤ s.size ∧ ∀ y, 0 < i → (aboveTo s s.size)[i - 1]? = some y → underB (L x) (L y) = true) ∧
    joinL (dirL (L s)) (baseL (L s)) = L s ∧ (partsS s).length = (aboveTo s s.size).length + 1 ∧ 0 < (aboveTo s s.size).length ∧ (aboveTo s s.size)[(aboveTo s s.size).length - 1]? = some (S (dirL (L s))) := by
  obtain ⟨hn, hr⟩ := plainB_names.1 h
  rcases back_cases h with ⟨e, _⟩ | ⟨v, e2, e3, e4, hd, hb, _⟩
  · exact absurd e hne
  · have hv := namesL_take hn (show v < (L s).length from e2) e3
    obtain ⟨t1, t2⟩ := namesL_facts hv
    refine ⟨fun i x hx => ?_, ?_, ?_, ?_, ?_⟩
    · rw [above_sl, List.getElem?_map, Option.map_eq_some_iff] at hx
      obtain ⟨j, hj, rfl⟩ := hx
      obtain ⟨j1, j2⟩ := slTo_mem (L s) s.size j (List.mem_of_getElem? hj)
      have hjn := namesL_take hn (show j < (L s).length from j1) j2
      have ex : L (s.extract 0 j) = (L s).take j := by rw [L_extract]; rfl
      refine ⟨by rw [ex]; exact under_take j1 j2, plainB_names.2 (by rw [ex]; exact ⟨hjn, rightB_take hr (namesL_facts hjn).1⟩), extract_len s _ _, fun y hi hy => ?_⟩
      rw [above_sl, List.getElem?_map, Option.map_eq_some_iff] at hy
      obtain ⟨k, hk, rfl⟩ := hy
      obtain ⟨k1, k2⟩ := slTo_mem (L s) s.size k (List.mem_of_getElem? hk)
      have hkj : k < j := by
        obtain ⟨a1, a2⟩ := List.getElem?_eq_some_iff.1 hk
        obtain ⟨b1, b2⟩ := List.getElem?_eq_some_iff.1 hj
        have := List.pairwise_iff_getElem.1 (slTo_up (L s) s.size) (i - 1) i a1 b1 (by omega)
        rw [a2, b2] at this
        exact this
      have ey : L (s.extract 0 k) = ((L s).take j).take k := by rw [L_extract, List.take_take, Nat.min_eq_left (by omega)]; rfl
      rw [ex, ey]
      have hlen : k < ((L s).take j).length := by rw [List.length_take]; have := L_size s; omega
      exact under_take hlen (by rw [getD_take hkj]; exact k2)
    · rw [hd, hb, joinL, if_neg t1, if_neg t2, List.append_assoc]
      exact (at_slash (show v < (L s).length from e2) e3).symm
    · rw [parts_all h, piecesS, List.length_append, pieces_sl, above_sl, List.length_map]; rfl
    · rw [above_sl, List.length_map]
      exact List.length_pos_iff.2 fun e => by rw [e] at e4; cases e4
    · rw [above_sl, List.length_map, List.getElem?_map, ← List.getLast?_eq_getElem?, e4, hd]
      exact congrArg some (S_extract_to s v)

theorem back_dot {s : ByteArray} (h : plainB s = true) (hd : dirL (L s) = [46]) : baseL (L s) = L s ∧ aboveTo s s.size = [] := by
  rcases back_cases h with ⟨_, e1, e2⟩ | ⟨v, _, _, _, _, _, e⟩
  · exact ⟨e1, by rw [above_sl, e2]; rfl⟩
  · exact absurd hd e
end Go.Proofs.YtdelgbkllnccoaaDoor
