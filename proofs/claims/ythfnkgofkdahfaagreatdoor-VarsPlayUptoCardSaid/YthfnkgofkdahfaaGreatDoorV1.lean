/-
  A shell's parameters: slices.Clone of strings; two lists that are the same; what a Vars holds.
-/
import Derived.Test.YthfnkgofkdahfaaGreatDoorOwnS
import Derived.Test.YthfnkgofkdahfaaGreatDoorSl
import Derived.Test.YthfnkgofkdahfaaGreatDoorShelf
import Derived.Deep.QuietTactic
import Derived.BigQuiet
namespace Go.Proofs.YthfnkgofkdahfaaGreatDoor
open Go.RowKit

theorem sl_elems {w : World} {B n : Nat} {v : Value} {xs : List Value} (h : Sl w B 1 v n xs) : ∃ a c, v = .slice a n c ∧ Elems w B a n xs := by
  have hm := h.len
  obtain ⟨h1, a, cap, rfl, h3, h4, h5⟩ := h
  refine ⟨a, cap, rfl, by omega, hm, ?_⟩
  rcases h5 with h5 | ⟨b, off, ha, hb, hc⟩
  · exact .inl h5
  · exact .inr ⟨b, off, ha, hb, fun i hi => hc i (by omega)⟩
theorem clone_any (a : Option Addr) (n c : Nat) (ss : List ByteArray) (w : World) (B : Nat) (h : Elems w B a n (ss.map .string)) (hn : n ≤ 1000) :
    Calls Tryz.prog 12 #[.slice a n c] w fun e w' => ∃ v', e = .returned v' ∧ OwnS w' w.heap.size v' ss ∧ Below w.heap.size w w' := by
  obtain ⟨h1, _, h3⟩ := h
  have hl : ss.length = n := by simpa using h1
  by_cases h0 : n = 0
  · subst h0
    obtain rfl : ss = [] := List.length_eq_zero_iff.1 hl
    cases a with
    | none => exact (Tryz.slices_Clone_string_nil 0 c w).mono fun e w' ⟨q1, q2⟩ => ⟨_, q1, OwnS.nil _ _, by rw [q2]; exact Below.refl _ _⟩
    | some a => exact (Tryz.slices_Clone_string_zero a c w).mono fun e w' ⟨v', q1, q2, _, q3⟩ => ⟨v', q1, q2, q3⟩
  · rcases h3 with h3 | ⟨b, off, rfl, hb, hc⟩
    · exact absurd h3 h0
    · refine (Tryz.slices_Clone_string b off n c ss w (by omega) (by omega) fun j hj => ?_).mono fun e w' ⟨v', q1, q2, _, q3⟩ => ⟨v', q1, ?_, q3⟩
      · rw [hc j (by omega), List.getElem?_map, List.getElem?_eq_getElem hj, List.getD, List.getElem?_eq_getElem hj]; rfl
      · unfold OwnS
        rw [hl]
        rw [List.take_of_length_le (by omega)] at q2
        exact q2

/-- Two lists with the same strings. -/
theorem same_any (a b : Option Addr) (n c d : Nat) (xs : List ByteArray) (w : World) (B : Nat) (ha : Elems w B a n (xs.map Value.string)) (hb : Elems w B b n (xs.map Value.string)) :
    Calls Tryz.prog 33 #[.slice a n c, .slice b n d] w fun e w' => e = .returned (.bool true) ∧ Below w.heap.size w w' := by
  have hn := ha.2.1
  have hxl : xs.length = n := by have := ha.1; simpa using this
  obtain ⟨b1, o1, r1, _, c1⟩ := ha.open 22 9 Tryz.underlying22 (by kernel_rfl)
  obtain ⟨b2, o2, r2, _, c2⟩ := hb.open 22 9 Tryz.underlying22 (by kernel_rfl)
  unfold maxLen at hn
  clear ha hb
  have HX := Lib.hid hxl
  have R1 := Lib.hid r1
  have R2 := Lib.hid r2
  have C1 := Lib.hid c1
  have C2 := Lib.hid c2
  clear hxl r1 r2 c1 c2
  go_enter Tryz.func33, Tryz.ntmps33
  go_wp2_with fail
  go_loopw [13] (fun i wr => ∃ (k : Nat), k ≤ n ∧ i = .int .i64 k ∧ (∀ p, wr.cell? p = w.cell? p) ∧ Below w.heap.size w wr) (fun i _ => n - (intOf i).toNat)
  case atStart => exact ⟨0, Nat.zero_le _, rfl, fun _ => rfl, Below.refl _ _⟩
  case round =>
    obtain ⟨k, hk, rfl, hcell, hbw⟩ := hrel
    by_cases hlt : k < n
    · have hkx : k < xs.length := by rw [HX.out]; exact hlt
      have j1 := fun w' => R1.out k c w' hlt
      have j2 := fun w' => R2.out k d w' hlt
      obtain ⟨x, hx⟩ : ∃ x, xs[k]? = some x := ⟨_, List.getElem?_eq_getElem hkx⟩
      have d1 : wr.cell? ⟨b1, o1 + k, none⟩ = some (.string x) := by rw [hcell, C1.out k hlt, List.getElem?_map, hx]; rfl
      have d2 : wr.cell? ⟨b2, o2 + k, none⟩ = some (.string x) := by rw [hcell, C2.out k hlt, List.getElem?_map, hx]; rfl
      have HC := Lib.hid hcell
      clear hx hcell
      go_wp2_with fail
      go_quiet (fail)
      go_wp2_with fail
      go_roundw
      case rel => exact ⟨k + 1, by omega, by go_num, fun p => HC.out p, below_drewN hbw nq⟩
      case measure => simp [intOf]; omega
    · obtain rfl : k = n := by omega
      go_wp2_with fail
      go_ret
      exact ⟨rfl, hbw⟩

def s_sh : ByteArray := ⟨#[115, 104]⟩
/-- The Vars at block g has the parameters xs. -/
def VAt (w : World) (B g : Nat) (xs : List ByteArray) : Prop := ∃ m v st, Blk w g 44 #[m, .string ⟨#[115, 104]⟩, v, .int .i64 st] ∧ OwnS w B v xs ∧ v.ownBlock ≠ some g
theorem VAt.below {w w' : World} {B g : Nat} {xs : List ByteArray} (h : VAt w B g xs) (hb : Below w.heap.size w w') : VAt w' B g xs := by
  obtain ⟨m, v, st, h1, h2, h3⟩ := h
  exact ⟨m, v, st, h1.below hb h1.lt, h2.below hb, h3⟩
theorem VAt.lt {w : World} {B g : Nat} {xs : List ByteArray} (h : VAt w B g xs) : g < w.heap.size := by
  obtain ⟨m, v, st, h1, _⟩ := h
  exact h1.lt

set_option maxHeartbeats 1000000 in
theorem new_any (a : Option Addr) (n c : Nat) (ss : List ByteArray) (w : World) (B : Nat) (h : Elems w B a n (ss.map .string)) (hB : B ≤ w.heap.size) (hn : n ≤ 1000) :
    Calls Tryz.prog 6 #[.slice none 0 0, .string ⟨#[115, 104]⟩, .slice a n c] w fun e w' => ∃ g, e = .returned (.pointer (some ⟨g, 0, none⟩)) ∧ VAt w' w.heap.size g ss ∧ w.heap.size ≤ g ∧ Below w.heap.size w w' := by
  have CC : Hid (∀ W, Below w.heap.size w W → Calls Tryz.prog 12 #[.slice a n c] W fun e w' => ∃ v', e = .returned v' ∧ OwnS w' W.heap.size v' ss ∧ Below W.heap.size W w') := Lib.hid fun W hW => clone_any a n c ss W B (h.below (hW.mono hB)) hn
  have hmm := @run_makeMap Tryz.prog
  clear h
  go_enter Tryz.func6, Tryz.ntmps6
  go_wp2_with fail
  refine (CC.out _ (by go_grown)).mono ?_
  rintro e w1 ⟨v', rfl, ho, hb1⟩
  have HB1 : Hid (Below w.heap.size w w1) := Lib.hid ((Below.alloc (Below.refl _ _) (Nat.le_refl _) _).trans (hb1.mono (by simp)))
  have hs1 : w.heap.size < w1.heap.size := by have := hb1.size; simp at this; omega
  have HO := Lib.hid ho
  obtain ⟨va, vc, rfl⟩ := own_shape ho
  clear ho hb1
  go_wp2_with fail
  go_loopw [21] (fun i wr => i = .int .i64 0 ∧ wr = w1.alloc (.cells #[.map (some w.heap.size), .string ⟨#[115, 104]⟩, .slice va ss.length vc, .int .i64 0] 44)) (fun _ _ => 0)
  case atStart => exact ⟨rfl, rfl⟩
  case round =>
    obtain ⟨rfl, rfl⟩ := hrel
    go_wp2
    go_ret
    refine ⟨w1.heap.size, rfl, ⟨_, _, 0, Blk.new w1 _ _, (HO.out.alloc _).from (by simp), ?_⟩, Nat.le_of_lt hs1, HB1.out.alloc (Nat.le_of_lt hs1) _⟩
    rcases HO.out.form with ⟨e0, _⟩ | ⟨q, cap, e0, hq, _⟩
    · rw [e0]; simp [Value.ownBlock]
    · intro e
      rw [e0] at e
      simp [Value.ownBlock] at e
      omega
end Go.Proofs.YthfnkgofkdahfaaGreatDoor
