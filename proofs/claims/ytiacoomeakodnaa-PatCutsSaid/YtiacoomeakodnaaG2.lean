/-
  Signs and spans in memory; the bytes that a name stands for: the walk.
-/
import Derived.Test.YtiacoomeakodnaaG1
import Derived.Test.YtiacoomeakodnaaSl
namespace Go.Proofs.Ytiacoomeakodnaa
open Go.RowKit

def spanC (s : Span) : List Value := [.int .u8 ((s.1.toNat : Nat) : Int), .int .u8 ((s.2.toNat : Nat) : Int)]
def sgC (s : Sg) : List Value := [.int .u8 ((s.b.toNat : Nat) : Int), .bool s.q]
theorem spanC_len (s : Span) : (spanC s).length = 2 := rfl
theorem sgC_len (s : Sg) : (sgC s).length = 2 := rfl

def ClassPost (o : Option (List Span)) (w : World) (e : Ending) (w' : World) : Prop := Below w.heap.size w w' ∧ match o with
  | some sp => ∃ v, e = .returned (.tuple #[v, .bool true]) ∧ Sl w' w'.heap.size 2 v sp.length (sp.flatMap spanC)
  | none => e = .returned (.tuple #[.slice none 0 0, .bool false])

theorem ne_toList {n : ByteArray} {m : List UInt8} (h : L n ≠ m) : (n.toList == m) = false := by rw [toList_L, beq_eq_false_iff_ne]; exact h

theorem class_no (n : ByteArray) (w : World) (h : classL (L n) = none) : Calls Try.prog 31 #[.string n] w (ClassPost none w) := by
  obtain ⟨h1, h2, h3, h4, h5, h6, h7, h8, h9, h10, h11, h12⟩ := classL_none h
  have e1 : (n.toList == [97, 108, 112, 104, 97]) = false := ne_toList h1
  have e2 : (n.toList == [100, 105, 103, 105, 116]) = false := ne_toList h2
  have e3 : (n.toList == [97, 108, 110, 117, 109]) = false := ne_toList h3
  have e4 : (n.toList == [117, 112, 112, 101, 114]) = false := ne_toList h4
  have e5 : (n.toList == [108, 111, 119, 101, 114]) = false := ne_toList h5
  have e6 : (n.toList == [115, 112, 97, 99, 101]) = false := ne_toList h6
  have e7 : (n.toList == [98, 108, 97, 110, 107]) = false := ne_toList h7
  have e8 : (n.toList == [112, 117, 110, 99, 116]) = false := ne_toList h8
  have e9 : (n.toList == [120, 100, 105, 103, 105, 116]) = false := ne_toList h9
  have e10 : (n.toList == [99, 110, 116, 114, 108]) = false := ne_toList h10
  have e11 : (n.toList == [112, 114, 105, 110, 116]) = false := ne_toList h11
  have e12 : (n.toList == [103, 114, 97, 112, 104]) = false := ne_toList h12
  clear h h1 h2 h3 h4 h5 h6 h7 h8 h9 h10 h11 h12
  go_enter Try.func31, Try.ntmps31
  go_wp2
  go_ret2
  exact ⟨Below.refl _ _, rfl⟩

theorem class_Alpha (w : World) : Calls Try.prog 31 #[.string ⟨#[97, 108, 112, 104, 97]⟩] w (ClassPost (some [(97, 122), (65, 90)]) w) := by
  go_enter Try.func31, Try.ntmps31
  go_wp2
  go_ret2
  exact ⟨Below.alloc (Below.refl _ _) (Nat.le_refl _) _, _, rfl, sl_made w _ _ _ 2 rfl (by decide) (by simp)⟩

theorem class_Digit (w : World) : Calls Try.prog 31 #[.string ⟨#[100, 105, 103, 105, 116]⟩] w (ClassPost (some [(48, 57)]) w) := by
  go_enter Try.func31, Try.ntmps31
  go_wp2
  go_ret2
  exact ⟨Below.alloc (Below.refl _ _) (Nat.le_refl _) _, _, rfl, sl_made w _ _ _ 2 rfl (by decide) (by simp)⟩

theorem class_Alnum (w : World) : Calls Try.prog 31 #[.string ⟨#[97, 108, 110, 117, 109]⟩] w (ClassPost (some [(97, 122), (65, 90), (48, 57)]) w) := by
  go_enter Try.func31, Try.ntmps31
  go_wp2
  go_ret2
  exact ⟨Below.alloc (Below.refl _ _) (Nat.le_refl _) _, _, rfl, sl_made w _ _ _ 2 rfl (by decide) (by simp)⟩

theorem class_Upper (w : World) : Calls Try.prog 31 #[.string ⟨#[117, 112, 112, 101, 114]⟩] w (ClassPost (some [(65, 90)]) w) := by
  go_enter Try.func31, Try.ntmps31
  go_wp2
  go_ret2
  exact ⟨Below.alloc (Below.refl _ _) (Nat.le_refl _) _, _, rfl, sl_made w _ _ _ 2 rfl (by decide) (by simp)⟩

theorem class_Lower (w : World) : Calls Try.prog 31 #[.string ⟨#[108, 111, 119, 101, 114]⟩] w (ClassPost (some [(97, 122)]) w) := by
  go_enter Try.func31, Try.ntmps31
  go_wp2
  go_ret2
  exact ⟨Below.alloc (Below.refl _ _) (Nat.le_refl _) _, _, rfl, sl_made w _ _ _ 2 rfl (by decide) (by simp)⟩

theorem class_Space (w : World) : Calls Try.prog 31 #[.string ⟨#[115, 112, 97, 99, 101]⟩] w (ClassPost (some [(9, 13), (32, 32)]) w) := by
  go_enter Try.func31, Try.ntmps31
  go_wp2
  go_ret2
  exact ⟨Below.alloc (Below.refl _ _) (Nat.le_refl _) _, _, rfl, sl_made w _ _ _ 2 rfl (by decide) (by simp)⟩

theorem class_Blank (w : World) : Calls Try.prog 31 #[.string ⟨#[98, 108, 97, 110, 107]⟩] w (ClassPost (some [(9, 9), (32, 32)]) w) := by
  go_enter Try.func31, Try.ntmps31
  go_wp2
  go_ret2
  exact ⟨Below.alloc (Below.refl _ _) (Nat.le_refl _) _, _, rfl, sl_made w _ _ _ 2 rfl (by decide) (by simp)⟩

theorem class_Punct (w : World) : Calls Try.prog 31 #[.string ⟨#[112, 117, 110, 99, 116]⟩] w (ClassPost (some [(33, 47), (58, 64), (91, 96), (123, 126)]) w) := by
  go_enter Try.func31, Try.ntmps31
  go_wp2
  go_ret2
  exact ⟨Below.alloc (Below.refl _ _) (Nat.le_refl _) _, _, rfl, sl_made w _ _ _ 2 rfl (by decide) (by simp)⟩

theorem class_Xdigit (w : World) : Calls Try.prog 31 #[.string ⟨#[120, 100, 105, 103, 105, 116]⟩] w (ClassPost (some [(48, 57), (97, 102), (65, 70)]) w) := by
  go_enter Try.func31, Try.ntmps31
  go_wp2
  go_ret2
  exact ⟨Below.alloc (Below.refl _ _) (Nat.le_refl _) _, _, rfl, sl_made w _ _ _ 2 rfl (by decide) (by simp)⟩

theorem class_Cntrl (w : World) : Calls Try.prog 31 #[.string ⟨#[99, 110, 116, 114, 108]⟩] w (ClassPost (some [(0, 31), (127, 127)]) w) := by
  go_enter Try.func31, Try.ntmps31
  go_wp2
  go_ret2
  exact ⟨Below.alloc (Below.refl _ _) (Nat.le_refl _) _, _, rfl, sl_made w _ _ _ 2 rfl (by decide) (by simp)⟩

theorem class_Print (w : World) : Calls Try.prog 31 #[.string ⟨#[112, 114, 105, 110, 116]⟩] w (ClassPost (some [(32, 126)]) w) := by
  go_enter Try.func31, Try.ntmps31
  go_wp2
  go_ret2
  exact ⟨Below.alloc (Below.refl _ _) (Nat.le_refl _) _, _, rfl, sl_made w _ _ _ 2 rfl (by decide) (by simp)⟩

theorem class_Graph (w : World) : Calls Try.prog 31 #[.string ⟨#[103, 114, 97, 112, 104]⟩] w (ClassPost (some [(33, 126)]) w) := by
  go_enter Try.func31, Try.ntmps31
  go_wp2
  go_ret2
  exact ⟨Below.alloc (Below.refl _ _) (Nat.le_refl _) _, _, rfl, sl_made w _ _ _ 2 rfl (by decide) (by simp)⟩

theorem class_any (n : ByteArray) (w : World) : Calls Try.prog 31 #[.string n] w (ClassPost (classL (L n)) w) := by
  by_cases h0 : L n = nmAlpha
  · have e : n = ⟨#[97, 108, 112, 104, 97]⟩ := L_inj h0
    have ec : classL (L n) = some [(97, 122), (65, 90)] := by rw [h0]; decide
    rw [ec, e]
    exact class_Alpha w
  by_cases h1 : L n = nmDigit
  · have e : n = ⟨#[100, 105, 103, 105, 116]⟩ := L_inj h1
    have ec : classL (L n) = some [(48, 57)] := by rw [h1]; decide
    rw [ec, e]
    exact class_Digit w
  by_cases h2 : L n = nmAlnum
  · have e : n = ⟨#[97, 108, 110, 117, 109]⟩ := L_inj h2
    have ec : classL (L n) = some [(97, 122), (65, 90), (48, 57)] := by rw [h2]; decide
    rw [ec, e]
    exact class_Alnum w
  by_cases h3 : L n = nmUpper
  · have e : n = ⟨#[117, 112, 112, 101, 114]⟩ := L_inj h3
    have ec : classL (L n) = some [(65, 90)] := by rw [h3]; decide
    rw [ec, e]
    exact class_Upper w
  by_cases h4 : L n = nmLower
  · have e : n = ⟨#[108, 111, 119, 101, 114]⟩ := L_inj h4
    have ec : classL (L n) = some [(97, 122)] := by rw [h4]; decide
    rw [ec, e]
    exact class_Lower w
  by_cases h5 : L n = nmSpace
  · have e : n = ⟨#[115, 112, 97, 99, 101]⟩ := L_inj h5
    have ec : classL (L n) = some [(9, 13), (32, 32)] := by rw [h5]; decide
    rw [ec, e]
    exact class_Space w
  by_cases h6 : L n = nmBlank
  · have e : n = ⟨#[98, 108, 97, 110, 107]⟩ := L_inj h6
    have ec : classL (L n) = some [(9, 9), (32, 32)] := by rw [h6]; decide
    rw [ec, e]
    exact class_Blank w
  by_cases h7 : L n = nmPunct
  · have e : n = ⟨#[112, 117, 110, 99, 116]⟩ := L_inj h7
    have ec : classL (L n) = some [(33, 47), (58, 64), (91, 96), (123, 126)] := by rw [h7]; decide
    rw [ec, e]
    exact class_Punct w
  by_cases h8 : L n = nmXdigit
  · have e : n = ⟨#[120, 100, 105, 103, 105, 116]⟩ := L_inj h8
    have ec : classL (L n) = some [(48, 57), (97, 102), (65, 70)] := by rw [h8]; decide
    rw [ec, e]
    exact class_Xdigit w
  by_cases h9 : L n = nmCntrl
  · have e : n = ⟨#[99, 110, 116, 114, 108]⟩ := L_inj h9
    have ec : classL (L n) = some [(0, 31), (127, 127)] := by rw [h9]; decide
    rw [ec, e]
    exact class_Cntrl w
  by_cases h10 : L n = nmPrint
  · have e : n = ⟨#[112, 114, 105, 110, 116]⟩ := L_inj h10
    have ec : classL (L n) = some [(32, 126)] := by rw [h10]; decide
    rw [ec, e]
    exact class_Print w
  by_cases h11 : L n = nmGraph
  · have e : n = ⟨#[103, 114, 97, 112, 104]⟩ := L_inj h11
    have ec : classL (L n) = some [(33, 126)] := by rw [h11]; decide
    rw [ec, e]
    exact class_Graph w
  have hn : classL (L n) = none := by
    unfold classL
    rw [if_neg h0, if_neg h1, if_neg h2, if_neg h3, if_neg h4, if_neg h5, if_neg h6, if_neg h7, if_neg h8, if_neg h9, if_neg h10, if_neg h11]
  rw [hn]
  exact class_no n w hn

end Go.Proofs.Ytiacoomeakodnaa
