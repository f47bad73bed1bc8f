/-
  The walks of the digits, of Change, and of the anchor.
-/
import Derived.Test.YtbfplannbhafeaaDoorM4
import Derived.Test.YtbfplannbhafeaaDoorSplit
namespace Go.Proofs.YtbfplannbhafeaaDoor
open Go.RowKit

theorem or8 (x y : Nat) (hy : y < 8) : (x * 8 ||| y) = x * 8 + y := by
  have := Nat.shiftLeft_add_eq_or_of_lt (b := y) (i := 3) (by omega) x
  rw [Nat.shiftLeft_eq] at this
  exact this.symm

theorem octalL_bad {c : UInt8} {l : List UInt8} {n : Nat} (h : c.toNat < 48 ∨ 55 < c.toNat) : octalL (c :: l) n = (0, 11) := by rw [octalL, if_pos h]
theorem octalL_big {c : UInt8} {l : List UInt8} {n : Nat} (h : ¬ (c.toNat < 48 ∨ 55 < c.toNat)) (h2 : 4095 < n * 8 + (c.toNat - 48)) : octalL (c :: l) n = (0, 10) := by rw [octalL, if_neg h, if_pos h2]
theorem octalL_go {c : UInt8} {l : List UInt8} {n : Nat} (h : ¬ (c.toNat < 48 ∨ 55 < c.toNat)) (h2 : ¬ 4095 < n * 8 + (c.toNat - 48)) : octalL (c :: l) n = octalL l (n * 8 + (c.toNat - 48)) := by rw [octalL, if_neg h, if_neg h2]

def resV (r : Nat × Int) : Value := .tuple #[.int .i64 (r.1 : Nat), .int .i64 r.2]

set_option maxHeartbeats 1000000 in
theorem octal_any (s : ByteArray) (w : World) (hs : s.size ≤ 100000) :
    Calls Tryd.prog 19 #[.string s] w fun e w' => e = .returned (resV (octalL (L s) 0)) ∧ Below w.heap.size w w' := by
  have HBM := Lib.hid (BytesAt.made w 5 s)
  have HBW := Lib.hid (below_bytesWorld w 5 s)
  go_enter Tryd.func19, Tryd.ntmps19
  go_wp2_with fail
  go_loop [4, 10] (fun o i => ∃ k n : Nat, k ≤ s.size ∧ i = .int .i64 k ∧ o = .int .i64 n ∧ n ≤ 4095 ∧ octalL (L s) 0 = octalL ((L s).drop k) n) (fun _ i => s.size - (intOf i).toNat)
  case atStart => exact ⟨0, 0, by omega, rfl, rfl, by omega, rfl⟩
  case round =>
    obtain ⟨k, n, hk, rfl, rfl, hn, hr⟩ := hrel
    by_cases hlt : k < s.size
    · have hcell := (HBM.out k (by rw [L_size]; exact hlt)).1
      rw [drop_getD (L s) (show k < (L s).length from hlt)] at hr
      obtain ⟨c, hc⟩ : ∃ c, c = (L s).getD k 0 := ⟨_, rfl⟩
      rw [← hc] at hcell hr
      obtain ⟨x, hx⟩ : ∃ x : Nat, x = c.toNat := ⟨_, rfl⟩
      have hx256 : x < 256 := by rw [hx]; exact c.toNat_lt
      rw [← hx] at hcell
      clear hc
      by_cases h1 : x < 48 ∨ 55 < x
      · have HR : Hid (octalL (L s) 0 = (0, 11)) := Lib.hid (by rw [hr, octalL_bad (by rw [← hx]; exact h1)])
        clear hr hx
        rcases h1 with h1 | h1
        all_goals
          go_wp2_with fail
          go_ret2
          exact ⟨by rw [HR.out]; rfl, HBW.out⟩
      · have hy : (x : Int) - 48 = ((x - 48 : Nat) : Int) := by omega
        obtain ⟨y, hyy⟩ : ∃ y, y = x - 48 := ⟨_, rfl⟩
        rw [← hyy] at hy
        have hy7 : y < 8 := by omega
        have hv : bits BinOp.or .i64 ((n : Int) * 8) (y : Int) = ((n * 8 + y : Nat) : Int) := by
          rw [show ((n : Int) * 8) = ((n * 8 : Nat) : Int) by push_cast; rfl, bits_or64 _ _ (by omega) (by omega), or8 _ _ hy7]
        obtain ⟨z, hz⟩ : ∃ z, z = n * 8 + y := ⟨_, rfl⟩
        rw [← hz] at hv
        have hx48 : 48 ≤ x := by omega
        have hx55 : x ≤ 55 := by omega
        by_cases h2 : 4095 < z
        · have HR : Hid (octalL (L s) 0 = (0, 10)) := Lib.hid (by rw [hr, octalL_big (by rw [← hx]; exact h1) (by rw [← hx, ← hyy, ← hz]; exact h2)])
          clear hr hx h1 hyy hz
          go_wp2_with fail
          go_ret2
          exact ⟨by rw [HR.out]; rfl, HBW.out⟩
        · have HR : Hid (octalL (L s) 0 = octalL ((L s).drop (k + 1)) z) := Lib.hid (by rw [hr, octalL_go (by rw [← hx]; exact h1) (by rw [← hx, ← hyy, ← hz]; exact h2), ← hx, ← hyy, ← hz])
          clear hr hx h1 hyy hz
          go_wp2_with fail
          go_round
          case rel => exact ⟨k + 1, z, by omega, by go_num, rfl, by omega, HR.out⟩
          case measure => simp [intOf]; omega
    · obtain rfl : k = s.size := by omega
      rw [List.drop_of_length_le (by rw [L_size]; exact Nat.le_refl _)] at hr
      have HR : Hid (octalL (L s) 0 = (n, 0)) := Lib.hid hr
      clear hr
      go_wp2_with fail
      go_ret2
      exact ⟨by rw [HR.out]; rfl, HBW.out⟩

theorem act_nil (c : Who) (named : Bool) (s : ByteArray) (m : Nat) (dir : Bool) (mask : Nat) (w : World) (he : L s = []) :
    Calls Tryd.prog 22 #[.agg #[.int .i64 (c.own : Nat), .int .i64 (c.bes : Nat), .bool named], .string s, .int .i64 m, .bool dir, .int .i64 mask] w fun e w' => e = .returned (actV none) ∧ Below w.heap.size w w' := by
  have e0 : s.toList.isEmpty = true := by rw [isEmpty_L, he]; rfl
  clear he
  go_enter Tryd.func22, Tryd.ntmps22
  go_wp2_with fail
  refine wp_scope_again 0 (fun _ _ => False) (fun _ _ => 0) rfl ?_ ?_
  · rintro _ _ h
    cases h
  · intro hR
    go_wp2_with fail
    simp only [Exit.jump]
    go_ret2
    exact ⟨rfl, Below.alloc (Below.refl _ _) (Nat.le_refl _) _⟩

/-- What Change says. -/
def partsV : Option Nat → Nat × Int
  | none => (0, 11)
  | some n => (n, 0)
def changeP (dir : Bool) (mask : Nat) (s : List UInt8) (m : Nat) : Nat × Int :=
  if s = [] then (0, 11) else if 48 ≤ (s.getD 0 0).toNat ∧ (s.getD 0 0).toNat ≤ 57 then octalL s 0 else partsV (partsL dir mask (sp 44 s) m)
theorem partsL_none {dir : Bool} {mask : Nat} {p : List UInt8} {ps : List (List UInt8)} {m : Nat} (h : clauseL dir mask p m = none) : partsL dir mask (p :: ps) m = none := by rw [partsL, h]
theorem partsL_some {dir : Bool} {mask : Nat} {p : List UInt8} {ps : List (List UInt8)} {m n : Nat} (h : clauseL dir mask p m = some n) : partsL dir mask (p :: ps) m = partsL dir mask ps n := by rw [partsL, h]
theorem sp_sizes (c : UInt8) : ∀ l, ∀ p ∈ sp c l, p.length ≤ l.length
  | [], p, h => by simp [sp] at h; subst h; exact Nat.le_refl _
  | d :: l, p, h => by
    rw [sp] at h
    split at h
    · rcases List.mem_cons.1 h with rfl | h
      · simp
      · have := sp_sizes c l p h; rw [List.length_cons]; omega
    · split at h
      · simp at h; subst h; simp
      · rename_i q qs hq
        rcases List.mem_cons.1 h with rfl | h
        · have := sp_sizes c l q (by rw [hq]; simp); rw [List.length_cons, List.length_cons]; omega
        · have := sp_sizes c l p (by rw [hq]; simp [h]); rw [List.length_cons]; omega
end Go.Proofs.YtbfplannbhafeaaDoor
