/-
  The plain law of PathJoins, and its walk.
-/
import Derived.Test.YtdelgbkllnccoaaDoorP5
namespace Go.Proofs.YtdelgbkllnccoaaDoor
open Go.RowKit

theorem nameB_facts {l : List UInt8} (h : nameB l = true) : l ≠ [] ∧ (47 : UInt8) ∉ l := by
  simp only [nameB, Bool.and_eq_true, decide_eq_true_eq, Bool.not_eq_true', hasB] at h
  obtain ⟨⟨⟨⟨⟨h1, _⟩, h2⟩, _⟩, _⟩, _⟩ := h
  refine ⟨fun e => by rw [e] at h1; simp at h1, fun hm => ?_⟩
  rw [List.contains_eq_mem] at h2
  simp [hm] at h2

theorem plainB_facts {s : ByteArray} (h : plainB s = true) : L s ≠ [] ∧ (L s).getD (s.size - 1) 0 ≠ 47 := by
  simp only [plainB, Bool.and_eq_true] at h
  obtain ⟨h1, h2⟩ := h
  have hne : L s ≠ [] := by
    intro e
    rw [e] at h2
    simp [rightB] at h2
  refine ⟨hne, fun h47 => ?_⟩
  have hpos : 0 < s.size := List.length_pos_iff.2 hne
  have hf := (piecesTo_spec s s.size).2.2 ⟨hpos, h47⟩
  have hm : s.extract (piecesTo s s.size).2 s.size ∈ piecesS s := by rw [piecesS]; simp
  have hn := List.all_eq_true.1 h1 _ hm
  have h0 := (nameB_facts hn).1
  rw [hf] at h0
  apply h0
  rw [L_extract, Nat.sub_self, List.take_zero]

theorem getD_app_left {a b : List UInt8} {i : Nat} (h : i < a.length) : (a ++ b).getD i 0 = a.getD i 0 := by
  simp only [List.getD]; rw [List.getElem?_append_left h]
theorem getD_app_right {a b : List UInt8} {i : Nat} (h : a.length ≤ i) : (a ++ b).getD i 0 = b.getD (i - a.length) 0 := by
  simp only [List.getD]; rw [List.getElem?_append_right h]
theorem getD_mem {l : List UInt8} {i : Nat} (h : i < l.length) : l.getD i 0 ∈ l := by
  simp only [List.getD]; rw [List.getElem?_eq_getElem h]; exact List.getElem_mem h

theorem bareL_id {l : List UInt8} (h : l.getD (l.length - 1) 0 ≠ 47) : bareL l = l := by
  rw [bareL]
  cases hn : l.length with
  | zero => rw [List.length_eq_zero_iff.1 hn]; rfl
  | succ n =>
    rw [cutTo_stop l n (fun h' => h (by rw [hn]; exact h'.2)), ← hn, List.take_length]

theorem lastTo_app (a b : List UInt8) (hb : (47 : UInt8) ∉ b) : ∀ n, n ≤ b.length → lastTo (a ++ [47] ++ b) (a.length + 1 + n) = a.length
  | 0, _ => by
    have e : (a ++ [47] ++ b).getD a.length 0 = 47 := by
      rw [List.append_assoc, getD_app_right (Nat.le_refl _), Nat.sub_self]; rfl
    rw [Nat.add_zero, lastTo_yes e]
  | n + 1, h => by
    have e : (a ++ [47] ++ b).getD (a.length + 1 + n) 0 ≠ 47 := by
      rw [getD_app_right (by simp)]
      intro h47
      have : (a.length + 1 + n - (a ++ [47]).length) = n := by simp
      rw [this] at h47
      exact hb (h47 ▸ getD_mem (by omega))
    rw [show a.length + 1 + (n + 1) = (a.length + 1 + n) + 1 by omega, lastTo_no e]
    exact lastTo_app a b hb n (by omega)

/-- What a plain path and a name make. -/
theorem joins_law {a b : List UInt8} (ha : a ≠ []) (ha2 : a.getD (a.length - 1) 0 ≠ 47) (hb : b ≠ []) (hb2 : (47 : UInt8) ∉ b) :
    joinL a b = a ++ [47] ++ b ∧ underB (joinL a b) a = true ∧ baseL (joinL a b) = b ∧ dirL (joinL a b) = a := by
  have hap := List.length_pos_iff.2 ha
  have hbp := List.length_pos_iff.2 hb
  have hj : joinL a b = a ++ [47] ++ b := by rw [joinL, if_neg ha, if_neg ha2]
  have hlen : (a ++ [47] ++ b).length = a.length + 1 + b.length := by simp; omega
  have hlast : lastL (a ++ [47] ++ b) = a.length := by
    rw [lastL, hlen]; exact lastTo_app a b hb2 b.length (Nat.le_refl _)
  have hbare : bareL (a ++ [47] ++ b) = a ++ [47] ++ b := bareL_id (by
    rw [hlen, getD_app_right (by simp; omega)]
    intro h
    exact hb2 (h ▸ getD_mem (by simp; omega)))
  have hne : a ++ [47] ++ b ≠ [47] := fun h => by
    have := congrArg List.length h
    rw [hlen] at this
    simp at this; omega
  have hn1 : ((a.length : Int) + 1).toNat = (a ++ [47]).length := by simp
  refine ⟨hj, ?_, ?_, ?_⟩
  · rw [hj, underB, hlen, decide_eq_true (by omega), List.append_assoc, List.take_left, getD_app_right (Nat.le_refl _), Nat.sub_self]
    simp
  · rw [hj, baseL, hbare, if_neg hne, hlast, hn1, List.drop_left]
  · rw [hj, dirL, hbare, if_neg hne, hlast, if_neg (by omega), hn1, List.take_left, bareL]
    have e : (a ++ [47]).length = a.length + 1 := by simp
    rw [e, cutTo_step (a ++ [47]) a.length ⟨hap, by rw [getD_app_right (Nat.le_refl _), Nat.sub_self]; rfl⟩]
    obtain ⟨m, hm⟩ : ∃ m, a.length = m + 1 := ⟨a.length - 1, by omega⟩
    rw [hm, cutTo_stop (a ++ [47]) m (fun h => ha2 (by
      have := h.2
      rw [getD_app_left (by omega)] at this
      rw [hm]; exact this)), ← hm, List.take_left]

end Go.Proofs.YtdelgbkllnccoaaDoor
