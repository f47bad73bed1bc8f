/-
  Letters: the walks.
-/
import Derived.Test.YtbfplannbhafeaaDoorM20
import Derived.Test.YtbfplannbhafeaaDoorOwn
namespace Go.Proofs.YtbfplannbhafeaaDoor
open Go.RowKit

/-- A letter of the three times three. -/
def chr (m i : Nat) : UInt8 := if m.testBit i then (if i % 3 = 0 then 120 else if i % 3 = 1 then 119 else 114) else 45
def rounds9 (m : Nat) : Nat → List UInt8
  | 0 => []
  | n + 1 => rounds9 m n ++ [chr m (8 - n)]
theorem rounds9_len (m : Nat) : ∀ n, (rounds9 m n).length = n
  | 0 => rfl
  | n + 1 => by rw [rounds9, List.length_append, rounds9_len m n]; rfl
/-- One mark. -/
def markP (m i at_ : Nat) (both alone : UInt8) (bl : List UInt8) : List UInt8 := if m.testBit i then bl.set at_ (if bl.getD at_ 0 = 120 then both else alone) else bl
theorem markP_len (m i at_ : Nat) (both alone : UInt8) (bl : List UInt8) : (markP m i at_ both alone bl).length = bl.length := by
  unfold markP
  split <;> simp
def lettersP (kind : UInt8) (m : Nat) : List UInt8 := markP m 9 9 116 84 (markP m 10 6 115 83 (markP m 11 3 115 83 (kind :: rounds9 m 9)))

/-- What the closure works on. -/
structure LInv (w : World) (bm bb g cap m : Nat) (bl : List UInt8) : Prop where
  cm : w.cell? ⟨bm, 0, none⟩ = some (.int .i64 (m : Nat))
  cb : w.cell? ⟨bb, 0, none⟩ = some (.slice (some ⟨g, 0, none⟩) 10 cap)
  by_ : BytesAt w g bl
  len : bl.length = 10
  ne1 : bm ≠ g
  ne2 : bb ≠ g
theorem LInv.set {w : World} {bm bb g cap m : Nat} {bl : List UInt8} (h : LInv w bm bb g cap m bl) {j : Nat} (hj : j < 10) {x : Int} {u : UInt8} (hu : x = (u.toNat : Nat)) : LInv (w.setCell ⟨g, j, none⟩ (.int .u8 x)) bm bb g cap m (bl.set j u) := by
  obtain ⟨h1, h2, h3, h4, h5, h6⟩ := h
  refine ⟨?_, ?_, h3.set (by omega) hu, by simpa using h4, h5, h6⟩
  · rw [World.cell?_setCell_other _ _ _ _ (by intro e; injection e with e _; exact h5 e.symm), h1]
  · rw [World.cell?_setCell_other _ _ _ _ (by intro e; injection e with e _; exact h6 e.symm), h2]

theorem mark_any (i at_ : Nat) (both alone : UInt8) (bm bb g cap m : Nat) (bl : List UInt8) (w : World) (h : LInv w bm bb g cap m bl) (hi : i < 12) (hat : at_ < 10) (hm : m < 4096) (bit : Int) (hbit : bit = (2 ^ i : Nat)) :
    Calls Tryd.prog 24 #[.int .i64 (at_ : Nat), .int .i64 bit, .int .u8 ((both.toNat : Nat) : Int), .int .u8 ((alone.toNat : Nat) : Int), .pointer (some ⟨bm, 0, none⟩), .pointer (some ⟨bb, 0, none⟩)] w
      fun e w' => e = .returned (.tuple #[]) ∧ LInv w' bm bb g cap m (markP m i at_ both alone bl) ∧ ∀ B, B ≤ g → Below B w w' := by
  subst hbit
  have e1 := h.cm
  have e2 := h.cb
  obtain ⟨e3, e4⟩ := h.by_ at_ (by rw [h.len]; exact hat)
  obtain ⟨tb, htb⟩ : ∃ b, m.testBit i = b := ⟨_, rfl⟩
  have hp : (2 ^ i : Nat) < 4096 := Nat.pow_lt_pow_right (n := 12) (by omega) hi
  have ha := bits_and64 m (2 ^ i) (by omega) (by omega)
  have hz : m &&& 2 ^ i = if tb then 2 ^ i else 0 := by
    cases tb with
    | false =>
      show m &&& 2 ^ i = 0
      apply Nat.eq_of_testBit_eq
      intro j
      rw [Nat.testBit_and, Nat.testBit_two_pow, Nat.zero_testBit]
      by_cases e : i = j
      · subst e; rw [htb]; rfl
      · simp [e]
    | true =>
      show m &&& 2 ^ i = 2 ^ i
      apply Nat.eq_of_testBit_eq
      intro j
      rw [Nat.testBit_and, Nat.testBit_two_pow]
      by_cases e : i = j
      · subst e; rw [htb]; rfl
      · simp [e]
  rw [hz] at ha
  obtain ⟨p, hp2⟩ : ∃ p, p = 2 ^ i := ⟨_, rfl⟩
  have hp0 : 0 < p := by rw [hp2]; exact Nat.pow_pos (by omega)
  rw [← hp2] at ha ⊢
  have hidx : ∀ w' : World, (Instr.indexAt 46 (.slice (some ⟨g, 0, none⟩) 10 cap) (.int .i64 (at_ : Int))).run Tryd.prog w' = .ok (.pointer (some ⟨g, at_, none⟩)) w' := fun w' => by
    have he : Tryd.prog.elem 46 = 5 := by simp [Program.elem, Tryd.underlying46]
    obtain ⟨i0, hi0, _, hz1, _⟩ := info_parts info8
    rw [run_indexAt_slice _ _ _ _ _ _ _ (by rw [he]; exact Tryd.underlying46), if_pos ⟨by omega, by omega⟩, he]
    simp [sizeOf, typeInfo, hi0, hz1, Result.andThen, addr_add]
  obtain ⟨c, hc⟩ : ∃ c, c = bl.getD at_ 0 := ⟨_, rfl⟩
  rw [← hc] at e3
  have HC := Lib.hid hc
  clear hc
  have H := Lib.hid h
  have HTB := Lib.hid htb
  clear h htb hz hp hp2
  cases tb with
  | false =>
    simp only [if_neg (show ¬ (false = true) by decide)] at ha
    go_enter Tryd.func24, Tryd.ntmps24
    go_wp2
    go_end0
    refine ⟨rfl, ?_, fun B _ => Below.refl _ _⟩
    rw [markP, HTB.out, if_neg (by decide)]
    exact H.out
  | true =>
    simp only [if_true] at ha
    have hpz : ((p : Int) == 0) = false := by rw [beq_eq_false_iff_ne]; omega
    by_cases h120 : c = 120
    · have ht : (((c.toNat : Nat) : Int) == 120) = true := eq_byte h120
      have HS : Hid (∀ w : World, LInv w bm bb g cap m bl → LInv (w.setCell ⟨g, at_, none⟩ (.int .u8 ((both.toNat : Nat) : Int))) bm bb g cap m (markP m i at_ both alone bl)) := Lib.hid fun w hw => by
        rw [markP, HTB.out, if_pos rfl, ← HC.out, if_pos h120]
        exact hw.set hat rfl
      clear h120
      go_enter Tryd.func24, Tryd.ntmps24
      go_wp2
      go_end0
      exact ⟨rfl, HS.out _ H.out, fun B hB => (Below.refl _ _).setCell hB _⟩
    · have ht : (((c.toNat : Nat) : Int) == 120) = false := ne_byte h120
      have HS : Hid (∀ w : World, LInv w bm bb g cap m bl → LInv (w.setCell ⟨g, at_, none⟩ (.int .u8 ((alone.toNat : Nat) : Int))) bm bb g cap m (markP m i at_ both alone bl)) := Lib.hid fun w hw => by
        rw [markP, HTB.out, if_pos rfl, ← HC.out, if_neg h120]
        exact hw.set hat rfl
      clear h120
      go_enter Tryd.func24, Tryd.ntmps24
      go_wp2
      go_end0
      exact ⟨rfl, HS.out _ H.out, fun B hB => (Below.refl _ _).setCell hB _⟩
end Go.Proofs.YtbfplannbhafeaaDoor
