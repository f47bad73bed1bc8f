/-
  Small laws for both statements' walks.
-/
import Derived.Test.YthfnkgofkdahfaaGreatDoorB13
import Derived.Test.YthfnkgofkdahfaaGreatDoorV3
import Derived.Test.YthfnkgofkdahfaaGreatDoorHeld
namespace Go.Proofs.YthfnkgofkdahfaaGreatDoor
open Go.RowKit

theorem cut_len (s : Nm) : (Lib.cut s [61]).1.length ≤ s.length ∧ (Lib.cut s [61]).2.1.length ≤ s.length := by
  rcases ent_or s with h | ⟨k, t, h1, rfl⟩
  · rw [cut_no h]; simp
  · rw [cut_ent h1]; simp; omega
theorem fine_short {s : ByteArray} (h : s.size ≤ 1048576) : Fine (L s) := by
  have := cut_len (L s)
  rw [L_size] at this
  exact ⟨by rw [L_size]; omega, by omega, by omega⟩
theorem fine_ent {l : List (Nm × Xd)} (hg : Good l) : ∀ s ∈ (envR l).map entS, Fine (L s) := by
  intro s hs
  obtain ⟨p, hp, rfl⟩ := List.mem_map.1 hs
  rw [envR, List.mem_map] at hp
  obtain ⟨q, hq, rfl⟩ := hp
  have h := hg q (List.mem_filter.1 hq).1
  show Fine (ent _)
  refine ⟨?_, ?_, ?_⟩
  · rw [ent, List.length_append, List.length_cons]; simp only; omega
  · rw [ent, cut_ent (nameL_noEq h.1)]; exact h.2.1
  · rw [ent, cut_ent (nameL_noEq h.1)]; exact h.2.2

theorem own_ne_blk {w : World} {base : Nat} {e t : TypeId} {size : Nat} {v : Value} {n : Nat} {xs : List Value} {q : Nat} {cs : Array Value} (h : w.ownsRow base e size v n xs) (hb : Blk w q t cs) (hne : e ≠ t) : v.ownBlock ≠ some q := by
  obtain ⟨_, h⟩ := h
  rcases h with ⟨rfl, _⟩ | ⟨b, cap, cur, rfl, _, h1, _⟩
  · simp [Value.ownBlock]
  · intro e2
    obtain rfl : b = q := by simpa [Value.ownBlock] using e2
    rw [Blk, h1] at hb
    simp only [Option.some.injEq, Obj.cells.injEq] at hb
    exact hne hb.2.1
theorem VS.own {v : Value} {w : World} {lo g mb n : Nat} {l : List (Nm × Xd)} {xs : List ByteArray} {st : Int} (h : VS v w lo g mb n l xs st) : OwnS w lo v xs := by
  obtain ⟨m, _, _, _, h1, _⟩ := h
  exact h1
end Go.Proofs.YthfnkgofkdahfaaGreatDoor
