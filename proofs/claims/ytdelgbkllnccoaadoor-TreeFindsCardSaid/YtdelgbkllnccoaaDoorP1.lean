/-
  Paths, plain: the slashes at the end, the last slash, the last part and what stands ahead of it.
-/
import Derived.Test.YtdelgbkllnccoaaDoorLib
import Derived.Lib.TrimByte
import Derived.Lib.LastIndexByte
namespace Go.Proofs.YtdelgbkllnccoaaDoor
open Go.RowKit

/-- How many bytes are left without the slashes at the end of the first n; one, if there are no others. -/
def cutTo (l : List UInt8) : Nat → Nat
  | 0 => 0
  | n + 1 => if 0 < n ∧ l.getD n 0 = 47 then cutTo l n else n + 1
def bareL (l : List UInt8) : List UInt8 := l.take (cutTo l l.length)

theorem cutTo_step (l : List UInt8) (n : Nat) (h : 0 < n ∧ l.getD n 0 = 47) : cutTo l (n + 1) = cutTo l n := by rw [cutTo, if_pos h]
theorem cutTo_stop (l : List UInt8) (n : Nat) (h : ¬ (0 < n ∧ l.getD n 0 = 47)) : cutTo l (n + 1) = n + 1 := by rw [cutTo, if_neg h]
theorem cutTo_spec (l : List UInt8) : ∀ n, cutTo l n ≤ n ∧ (∀ j, cutTo l n ≤ j → j < n → l.getD j 0 = 47) ∧ (0 < n → 0 < cutTo l n) ∧ (1 < cutTo l n → l.getD (cutTo l n - 1) 0 ≠ 47)
  | 0 => ⟨Nat.le_refl _, fun j _ h => by omega, fun h => h, fun h => by simp [cutTo] at h⟩
  | n + 1 => by
    obtain ⟨h1, h2, h3, h4⟩ := cutTo_spec l n
    rw [cutTo]
    split
    · rename_i h
      refine ⟨by omega, fun j hj hn => ?_, fun _ => h3 h.1, h4⟩
      by_cases hjn : j < n
      · exact h2 j hj hjn
      · obtain rfl : j = n := by omega
        exact h.2
    · rename_i h
      refine ⟨Nat.le_refl _, fun j _ _ => by omega, fun _ => by omega, fun h5 h6 => h ⟨by omega, by simpa using h6⟩⟩

theorem bareL_len (l : List UInt8) : (bareL l).length ≤ l.length := by rw [bareL, List.length_take]; omega
theorem bareL_pos {l : List UInt8} (h : l ≠ []) : bareL l ≠ [] := by
  have h0 : 0 < l.length := List.length_pos_iff.2 h
  have := (cutTo_spec l l.length).2.2.1 h0
  have h1 := (cutTo_spec l l.length).1
  intro e
  have := congrArg List.length e
  rw [bareL, List.length_take, List.length_nil] at this
  omega

theorem getD_some {l : List UInt8} {j : Nat} {b : UInt8} (h : l[j]? = some b) : l.getD j 0 = b := by simp [List.getD, h]

theorem bare_trim (l : List UInt8) : (if Lib.trimRightB l 47 = [] ∧ l ≠ [] then [47] else Lib.trimRightB l 47) = bareL l := by
  obtain ⟨h1, h2, h3, h4⟩ := cutTo_spec l l.length
  by_cases h0 : l = []
  · subst h0; rfl
  · have hpos : 0 < l.length := List.length_pos_iff.2 h0
    have hk := h3 hpos
    by_cases hc : cutTo l l.length = 1 ∧ l.getD 0 0 = 47
    · have e : Lib.trimRightB l 47 = [] := by
        rw [Lib.trimRightB_take l 47 0 (Nat.zero_le _) (fun j b _ hj => ?_) (fun b hb => by omega)]
        · rfl
        · rw [← getD_some hj]
          have hjl : j < l.length := (List.getElem?_eq_some_iff.1 hj).1
          by_cases hj0 : j = 0
          · subst hj0; exact hc.2
          · exact h2 j (by omega) hjl
      rw [if_pos ⟨e, h0⟩, bareL, hc.1]
      cases l with
      | nil => exact absurd rfl h0
      | cons c l => simpa using hc.2.symm
    · have e : Lib.trimRightB l 47 = bareL l := by
        refine Lib.trimRightB_take l 47 _ h1 (fun j b hj hb => ?_) (fun b hb hb' => ?_)
        · rw [← getD_some hb]; exact h2 j hj (List.getElem?_eq_some_iff.1 hb).1
        · rw [← getD_some hb']
          by_cases h5 : 1 < cutTo l l.length
          · exact h4 h5
          · have h6 : cutTo l l.length = 1 := by omega
            rw [h6]
            exact fun h7 => hc ⟨h6, h7⟩
      rw [if_neg, e]
      rintro ⟨h5, _⟩
      exact bareL_pos h0 (e ▸ h5)

/-- The place of the last slash among the first n; -1: none. -/
def lastTo (l : List UInt8) : Nat → Int
  | 0 => -1
  | n + 1 => if l.getD n 0 = 47 then (n : Int) else lastTo l n
def lastL (l : List UInt8) : Int := lastTo l l.length
theorem lastTo_lt (l : List UInt8) : ∀ n, -1 ≤ lastTo l n ∧ lastTo l n < n
  | 0 => by simp [lastTo]
  | n + 1 => by have := lastTo_lt l n; rw [lastTo]; split <;> omega
theorem lastTo_yes {l : List UInt8} {n : Nat} (h : l.getD n 0 = 47) : lastTo l (n + 1) = n := by rw [lastTo, if_pos h]
theorem lastTo_no {l : List UInt8} {n : Nat} (h : l.getD n 0 ≠ 47) : lastTo l (n + 1) = lastTo l n := by rw [lastTo, if_neg h]

theorem lib_last (s : ByteArray) : ∀ n, n ≤ s.size → Lib.lastIdx s 47 n = lastTo (L s) n
  | 0, _ => rfl
  | n + 1, h => by
    have hn : n < s.data.size := h
    have hl : n < (L s).length := h
    have e : s.data[n]! = (L s).getD n 0 := by
      rw [getElem!_pos s.data n hn, List.getD, List.getElem?_eq_getElem hl]; rfl
    rw [Lib.lastIdx, lastTo, lib_last s n (by omega), e]
    congr 1
    refine propext ⟨fun h => UInt8.toNat_inj.1 (by have : ((47 : UInt8).toNat : Int) = 47 := rfl; omega), fun h => by rw [h]; rfl⟩
theorem lib_last_all (s : ByteArray) : Lib.lastIndexByte s 47 = lastL (L s) := lib_last s s.size (Nat.le_refl _)

def baseL (l : List UInt8) : List UInt8 := if bareL l = [47] then [47] else (bareL l).drop (lastL (bareL l) + 1).toNat
def dirL (l : List UInt8) : List UInt8 := if bareL l = [47] then [47] else if lastL (bareL l) < 0 then [46] else bareL ((bareL l).take (lastL (bareL l) + 1).toNat)
end Go.Proofs.YtdelgbkllnccoaaDoor
