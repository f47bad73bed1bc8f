/-
  ExpandCuts returns true for every two strings: what a quoted text cuts from a variable's text at its beginning, or its end, is just that text, and the length is the number of bytes. The card ties the listed variables to the program's text (a great table of the library is pinned by name).
-/
import Derived.Test.YtjeinpadcknfbaaGreatDoorWB9
import Derived.Lib.ItoaLen
import Derived.Lib.LaidTab
import Derived.MakeChecks
import Derived.Test.YtjeinpadcknfbaaGreatDoorWB1
import Derived.ProofKit
import Derived.SizedLaws
import Derived.HandedShaped
import Derived.Shelf.Vars
import Derived.OpenShut
import Derived.LaidMore
import Derived.Lay
import Derived.SevenTiedAt
import Derived.Stop.Joined
import Derived.Test.YtjeinpadcknfbaaGreatDoorCards
import Derived.Test.YtjeinpadcknfbaaGreatDoorTie
set_option linter.unusedVariables false
set_option linter.unusedSimpArgs false
/-
  What is left of a text behind a quoted text: plain. Text of the parameters that cut.
-/
namespace Go.Proofs.YtjeinpadcknfbaaGreatDoor
open Go.RowKit

def headS (t c : ByteArray) : ByteArray := if c.size ≤ t.size ∧ (L t).take c.size = L c then t.extract c.size t.size else t
def tailS (t c : ByteArray) : ByteArray := if c.size ≤ t.size ∧ (L t).drop (t.size - c.size) = L c then t.extract 0 (t.size - c.size) else t
theorem cut_head (t c : ByteArray) (lg : Bool) : ∃ o, IsBest (fun n => matchP (bytesP (L c)) (cutPart (L t) false n)) t.size lg o ∧ cutLeft t false o = headS t c := by
  obtain ⟨o, ho⟩ := best_ex (fun n => matchP (bytesP (L c)) (cutPart (L t) false n)) lg t.size
  refine ⟨o, ho, ?_⟩
  have hm : ∀ n, n ≤ t.size → matchP (bytesP (L c)) (cutPart (L t) false n) = true → n = c.size ∧ (L t).take n = L c := fun n hn h => by
    rw [match_quoted] at h
    have h1 : (L t).take n = L c := by simpa [cutPart] using h
    have h2 := congrArg List.length h1
    rw [List.length_take, L_size, L_size] at h2
    exact ⟨by omega, h1⟩
  by_cases h : c.size ≤ t.size ∧ (L t).take c.size = L c
  · have hy : matchP (bytesP (L c)) (cutPart (L t) false c.size) = true := by rw [match_quoted]; simp [cutPart, h.2]
    have := best_uniq_some ho h.1 hy (fun n hn hmn => by obtain ⟨rfl, _⟩ := hm n hn hmn; cases lg <;> simp)
    rw [this, headS, if_pos h]
    rfl
  · have := best_uniq_none ho (fun n hn => by
      cases hb : matchP (bytesP (L c)) (cutPart (L t) false n) with
      | false => rfl
      | true => obtain ⟨rfl, h1⟩ := hm n hn hb; exact absurd ⟨hn, h1⟩ h)
    rw [this, headS, if_neg h]
    rfl
theorem cut_tail (t c : ByteArray) (lg : Bool) : ∃ o, IsBest (fun n => matchP (bytesP (L c)) (cutPart (L t) true n)) t.size lg o ∧ cutLeft t true o = tailS t c := by
  obtain ⟨o, ho⟩ := best_ex (fun n => matchP (bytesP (L c)) (cutPart (L t) true n)) lg t.size
  refine ⟨o, ho, ?_⟩
  have hl : (L t).length = t.size := L_size t
  have hm : ∀ n, n ≤ t.size → matchP (bytesP (L c)) (cutPart (L t) true n) = true → n = c.size ∧ (L t).drop (t.size - n) = L c := fun n hn h => by
    rw [match_quoted] at h
    have h1 : (L t).drop (t.size - n) = L c := by simpa [cutPart, hl] using h
    have h2 := congrArg List.length h1
    rw [List.length_drop, L_size, L_size] at h2
    exact ⟨by omega, h1⟩
  by_cases h : c.size ≤ t.size ∧ (L t).drop (t.size - c.size) = L c
  · have hy : matchP (bytesP (L c)) (cutPart (L t) true c.size) = true := by rw [match_quoted]; simp [cutPart, hl, h.2]
    have := best_uniq_some ho h.1 hy (fun n hn hmn => by obtain ⟨rfl, _⟩ := hm n hn hmn; cases lg <;> simp)
    rw [this, tailS, if_pos h]
    rfl
  · have := best_uniq_none ho (fun n hn => by
      cases hb : matchP (bytesP (L c)) (cutPart (L t) true n) with
      | false => rfl
      | true => obtain ⟨rfl, h1⟩ := hm n hn hb; exact absurd ⟨hn, h1⟩ h)
    rw [this, tailS, if_neg h]
    rfl
theorem extract_size {t : ByteArray} {i j : Nat} : (t.extract i j).size ≤ t.size := by simp; omega
theorem headS_size (t c : ByteArray) : (headS t c).size ≤ t.size := by rw [headS]; split; exact extract_size; exact Nat.le_refl _
theorem tailS_size (t c : ByteArray) : (tailS t c).size ≤ t.size := by rw [tailS]; split; exact extract_size; exact Nat.le_refl _

section
variable {lo g mb n : Nat} {xs : List ByteArray} {st : Int}
theorem Text_h (xg : Nat) (hv : Value) (strict : Bool) (t c : ByteArray) (htz : t.size ≤ 500) (hcz : c.size ≤ 100) (wa : Option Addr) (w W : World) (h : Nat) (hX : XBk w xg g hv strict) (hV : VSt w lo g mb n [(xN, xV (L t))] xs st) (hWd : WordAt w wa 1 ⟨1, true, c, ⟨#[]⟩, none, 0, 0⟩) (hW : Below w.heap.size w W) (hh : h = W.heap.size) :
    Calls Tryz.prog 9 #[.pointer (some ⟨xg, 0, none⟩), .slice (some ⟨h, 0, none⟩) 1 1] (W.alloc (.cells #[.int .i64 2, .bool true, .string ⟨#[120]⟩, .string ⟨#[35]⟩, .slice wa 1 1, .slice none 0 0] 36)) fun e w' => e = .returned (.tuple #[.string (headS t c), .int .i64 0]) ∧ Below W.heap.size W w' := by
  have hb0 : Below w.heap.size w (W.alloc (.cells #[.int .i64 2, .bool true, .string ⟨#[120]⟩, .string ⟨#[35]⟩, .slice wa 1 1, .slice none 0 0] 36)) := hW.alloc hW.size _
  refine (Text_of xg (some ⟨h, 0, none⟩) 1 ⟨2, true, ⟨#[120]⟩, ⟨#[35]⟩, wa, 1, 1⟩ ⟨headS t c, true, false, false⟩ _ (Nat.lt_of_lt_of_le hX.lt hb0.size) (part_made W ⟨2, true, ⟨#[120]⟩, ⟨#[35]⟩, wa, 1, 1⟩ hh) rfl (Nat.le_trans (headS_size t c) htz) rfl fun W' hW' => ?_).mono fun e w' ⟨h1, h2⟩ => ⟨h1, ((Below.refl W.heap.size W).alloc (Nat.le_refl _) _).trans (h2.mono (by simp))⟩
  have hb1 : Below w.heap.size w W' := hb0.trans (hW'.mono hb0.size)
  obtain ⟨o, ho, he⟩ := cut_head t c false
  obtain ⟨v, hv'⟩ := hV
  have hy := hWd.below hb1
  have := param_h xg hv strict true wa 1 W' (hX.below hb1 hX.lt) ⟨v, hv'.below hb1⟩ t ⟨1, true, c, ⟨#[]⟩, none, 0, 0⟩ o hy.1 rfl rfl hcz htz ho (find_x _)
  rw [he] at this
  exact this
theorem Text_hh (xg : Nat) (hv : Value) (strict : Bool) (t c : ByteArray) (htz : t.size ≤ 500) (hcz : c.size ≤ 100) (wa : Option Addr) (w W : World) (h : Nat) (hX : XBk w xg g hv strict) (hV : VSt w lo g mb n [(xN, xV (L t))] xs st) (hWd : WordAt w wa 1 ⟨1, true, c, ⟨#[]⟩, none, 0, 0⟩) (hW : Below w.heap.size w W) (hh : h = W.heap.size) :
    Calls Tryz.prog 9 #[.pointer (some ⟨xg, 0, none⟩), .slice (some ⟨h, 0, none⟩) 1 1] (W.alloc (.cells #[.int .i64 2, .bool true, .string ⟨#[120]⟩, .string ⟨#[35, 35]⟩, .slice wa 1 1, .slice none 0 0] 36)) fun e w' => e = .returned (.tuple #[.string (headS t c), .int .i64 0]) ∧ Below W.heap.size W w' := by
  have hb0 : Below w.heap.size w (W.alloc (.cells #[.int .i64 2, .bool true, .string ⟨#[120]⟩, .string ⟨#[35, 35]⟩, .slice wa 1 1, .slice none 0 0] 36)) := hW.alloc hW.size _
  refine (Text_of xg (some ⟨h, 0, none⟩) 1 ⟨2, true, ⟨#[120]⟩, ⟨#[35, 35]⟩, wa, 1, 1⟩ ⟨headS t c, true, false, false⟩ _ (Nat.lt_of_lt_of_le hX.lt hb0.size) (part_made W ⟨2, true, ⟨#[120]⟩, ⟨#[35, 35]⟩, wa, 1, 1⟩ hh) rfl (Nat.le_trans (headS_size t c) htz) rfl fun W' hW' => ?_).mono fun e w' ⟨h1, h2⟩ => ⟨h1, ((Below.refl W.heap.size W).alloc (Nat.le_refl _) _).trans (h2.mono (by simp))⟩
  have hb1 : Below w.heap.size w W' := hb0.trans (hW'.mono hb0.size)
  obtain ⟨o, ho, he⟩ := cut_head t c true
  obtain ⟨v, hv'⟩ := hV
  have hy := hWd.below hb1
  have := param_hh xg hv strict true wa 1 W' (hX.below hb1 hX.lt) ⟨v, hv'.below hb1⟩ t ⟨1, true, c, ⟨#[]⟩, none, 0, 0⟩ o hy.1 rfl rfl hcz htz ho (find_x _)
  rw [he] at this
  exact this
theorem Text_p (xg : Nat) (hv : Value) (strict : Bool) (t c : ByteArray) (htz : t.size ≤ 500) (hcz : c.size ≤ 100) (wa : Option Addr) (w W : World) (h : Nat) (hX : XBk w xg g hv strict) (hV : VSt w lo g mb n [(xN, xV (L t))] xs st) (hWd : WordAt w wa 1 ⟨1, true, c, ⟨#[]⟩, none, 0, 0⟩) (hW : Below w.heap.size w W) (hh : h = W.heap.size) :
    Calls Tryz.prog 9 #[.pointer (some ⟨xg, 0, none⟩), .slice (some ⟨h, 0, none⟩) 1 1] (W.alloc (.cells #[.int .i64 2, .bool true, .string ⟨#[120]⟩, .string ⟨#[37]⟩, .slice wa 1 1, .slice none 0 0] 36)) fun e w' => e = .returned (.tuple #[.string (tailS t c), .int .i64 0]) ∧ Below W.heap.size W w' := by
  have hb0 : Below w.heap.size w (W.alloc (.cells #[.int .i64 2, .bool true, .string ⟨#[120]⟩, .string ⟨#[37]⟩, .slice wa 1 1, .slice none 0 0] 36)) := hW.alloc hW.size _
  refine (Text_of xg (some ⟨h, 0, none⟩) 1 ⟨2, true, ⟨#[120]⟩, ⟨#[37]⟩, wa, 1, 1⟩ ⟨tailS t c, true, false, false⟩ _ (Nat.lt_of_lt_of_le hX.lt hb0.size) (part_made W ⟨2, true, ⟨#[120]⟩, ⟨#[37]⟩, wa, 1, 1⟩ hh) rfl (Nat.le_trans (tailS_size t c) htz) rfl fun W' hW' => ?_).mono fun e w' ⟨h1, h2⟩ => ⟨h1, ((Below.refl W.heap.size W).alloc (Nat.le_refl _) _).trans (h2.mono (by simp))⟩
  have hb1 : Below w.heap.size w W' := hb0.trans (hW'.mono hb0.size)
  obtain ⟨o, ho, he⟩ := cut_tail t c false
  obtain ⟨v, hv'⟩ := hV
  have hy := hWd.below hb1
  have := param_p xg hv strict true wa 1 W' (hX.below hb1 hX.lt) ⟨v, hv'.below hb1⟩ t ⟨1, true, c, ⟨#[]⟩, none, 0, 0⟩ o hy.1 rfl rfl hcz htz ho (find_x _)
  rw [he] at this
  exact this
theorem Text_pp (xg : Nat) (hv : Value) (strict : Bool) (t c : ByteArray) (htz : t.size ≤ 500) (hcz : c.size ≤ 100) (wa : Option Addr) (w W : World) (h : Nat) (hX : XBk w xg g hv strict) (hV : VSt w lo g mb n [(xN, xV (L t))] xs st) (hWd : WordAt w wa 1 ⟨1, true, c, ⟨#[]⟩, none, 0, 0⟩) (hW : Below w.heap.size w W) (hh : h = W.heap.size) :
    Calls Tryz.prog 9 #[.pointer (some ⟨xg, 0, none⟩), .slice (some ⟨h, 0, none⟩) 1 1] (W.alloc (.cells #[.int .i64 2, .bool true, .string ⟨#[120]⟩, .string ⟨#[37, 37]⟩, .slice wa 1 1, .slice none 0 0] 36)) fun e w' => e = .returned (.tuple #[.string (tailS t c), .int .i64 0]) ∧ Below W.heap.size W w' := by
  have hb0 : Below w.heap.size w (W.alloc (.cells #[.int .i64 2, .bool true, .string ⟨#[120]⟩, .string ⟨#[37, 37]⟩, .slice wa 1 1, .slice none 0 0] 36)) := hW.alloc hW.size _
  refine (Text_of xg (some ⟨h, 0, none⟩) 1 ⟨2, true, ⟨#[120]⟩, ⟨#[37, 37]⟩, wa, 1, 1⟩ ⟨tailS t c, true, false, false⟩ _ (Nat.lt_of_lt_of_le hX.lt hb0.size) (part_made W ⟨2, true, ⟨#[120]⟩, ⟨#[37, 37]⟩, wa, 1, 1⟩ hh) rfl (Nat.le_trans (tailS_size t c) htz) rfl fun W' hW' => ?_).mono fun e w' ⟨h1, h2⟩ => ⟨h1, ((Below.refl W.heap.size W).alloc (Nat.le_refl _) _).trans (h2.mono (by simp))⟩
  have hb1 : Below w.heap.size w W' := hb0.trans (hW'.mono hb0.size)
  obtain ⟨o, ho, he⟩ := cut_tail t c true
  obtain ⟨v, hv'⟩ := hV
  have hy := hWd.below hb1
  have := param_pp xg hv strict true wa 1 W' (hX.below hb1 hX.lt) ⟨v, hv'.below hb1⟩ t ⟨1, true, c, ⟨#[]⟩, none, 0, 0⟩ o hy.1 rfl rfl hcz htz ho (find_x _)
  rw [he] at this
  exact this
theorem Text_ln (xg : Nat) (hv : Value) (strict : Bool) (t : ByteArray) (htz : t.size ≤ 500) (w W : World) (h : Nat) (hX : XBk w xg g hv strict) (hV : VSt w lo g mb n [(xN, xV (L t))] xs st) (hT : Tabx w) (hW : Below w.heap.size w W) (hh : h = W.heap.size) :
    Calls Tryz.prog 9 #[.pointer (some ⟨xg, 0, none⟩), .slice (some ⟨h, 0, none⟩) 1 1] (W.alloc (.cells #[.int .i64 2, .bool false, .string ⟨#[120]⟩, .string ⟨#[108, 101, 110]⟩, .slice none 0 0, .slice none 0 0] 36)) fun e w' => e = .returned (.tuple #[.string (S (Lib.itoa (t.size : Nat))), .int .i64 0]) ∧ Below W.heap.size W w' := by
  have hb0 : Below w.heap.size w (W.alloc (.cells #[.int .i64 2, .bool false, .string ⟨#[120]⟩, .string ⟨#[108, 101, 110]⟩, .slice none 0 0, .slice none 0 0] 36)) := hW.alloc hW.size _
  have hiz : (S (Lib.itoa (t.size : Nat))).size ≤ 500 := by
    rw [S_size, Lib.itoa, if_neg (by omega), Lib.decDigits_length]
    exact Nat.le_trans (Lib.nDigits_le20 _ (by simp; omega)) (by omega)
  refine (Text_of xg (some ⟨h, 0, none⟩) 1 ⟨2, false, ⟨#[120]⟩, ⟨#[108, 101, 110]⟩, none, 0, 0⟩ ⟨S (Lib.itoa (t.size : Nat)), false, true, false⟩ _ (Nat.lt_of_lt_of_le hX.lt hb0.size) (part_made W ⟨2, false, ⟨#[120]⟩, ⟨#[108, 101, 110]⟩, none, 0, 0⟩ hh) rfl hiz rfl fun W' hW' => ?_).mono fun e w' ⟨h1, h2⟩ => ⟨h1, ((Below.refl W.heap.size W).alloc (Nat.le_refl _) _).trans (h2.mono (by simp))⟩
  have hb1 : Below w.heap.size w W' := hb0.trans (hW'.mono hb0.size)
  obtain ⟨v, hv'⟩ := hV
  exact param_len xg hv strict false none 0 0 W' (hX.below hb1 hX.lt) ⟨v, hv'.below hb1⟩ t (hT.on hb1) htz (find_x _)
end
end Go.Proofs.YtjeinpadcknfbaaGreatDoor
/-
  The document's digits of a size: the walk.
-/
namespace Go.Proofs.YtjeinpadcknfbaaGreatDoor
open Go.RowKit

theorem dec_small {m : Nat} (h : m < 10) : Lib.decDigits m = [UInt8.ofNat (48 + m)] := Lib.decDigits_one h
theorem dec_big {m : Nat} (h : ¬ m < 10) : Lib.decDigits m = Lib.decDigits (m / 10) ++ [UInt8.ofNat (48 + m % 10)] := by rw [Lib.decDigits, dif_neg h]
theorem dec_len20 {u : Nat} (hu : u < 18446744073709551616) : (Lib.decDigits u).length ≤ 20 := by rw [Lib.decDigits_length]; exact Lib.nDigits_le20 u hu

set_option maxHeartbeats 800000 in
set_option maxRecDepth 100000 in
theorem refDigits_any (u : Nat) (hu : u < 18446744073709551616) (w : World) :
    Calls Tryz.prog 19 #[.int .u64 u] w fun e w' => e = .returned (.string (S (Lib.decDigits u))) ∧ Below w.heap.size w w' := by
  have HD := Lib.hid (dec_len20 hu)
  have HU := Lib.hid hu
  clear hu
  go_enter Tryz.func19, Tryz.ntmps19
  go_wp2_with fail
  go_loopw [0, 3] (fun n o wr => ∃ (m : Nat) (t : ByteArray), m ≤ u ∧ n = .int .u64 m ∧ o = .string t ∧ Lib.decDigits u = Lib.decDigits m ++ L t ∧ Below w.heap.size w wr) (fun n _ _ => (RowKit.intOf n).toNat)
  case atStart => exact ⟨u, ⟨#[]⟩, Nat.le_refl _, rfl, rfl, by rw [show L ⟨#[]⟩ = [] from rfl, List.append_nil], Below.refl _ _⟩
  case round =>
    obtain ⟨m, t, hmu, rfl, rfl, hd, hbw⟩ := hrel
    have hbs := hbw.size
    have hts : t.size ≤ 20 := by
      have h1 := HD.out
      rw [hd, List.length_append, L_size] at h1
      omega
    by_cases hm : 10 ≤ m
    · rw [dec_big (m := m) (by omega)] at hd
      have HD2 := Lib.hid hd
      have hw : IntKind.u64.wrap ((m : Int) / 10) = ((m / 10 : Nat) : Int) := by
        have := HU.out
        rw [IntKind.wrap_u64]; omega
      have HW := Lib.hid hw
      have HM := Lib.hid hmu
      clear hd hw hmu
      go_wp2_with fail
      go_roundw
      case rel =>
        refine ⟨m / 10, _, by have := HM.out; omega, congrArg (Value.int .u64) HW.out, rfl, ?_, hbw.trans ((Below.alloc (Below.refl _ _) (Nat.le_refl _) _).mono hbs)⟩
        rw [HD2.out, L_append, List.append_assoc]
        simp
      case measure =>
        rw [HW.out]
        simp [RowKit.intOf]; omega
    · rw [dec_small (m := m) (by omega)] at hd
      have HD2 := Lib.hid hd
      clear hd
      go_wp2_with fail
      go_ret
      refine ⟨ret_string ?_, hbw.trans ((Below.alloc (Below.refl _ _) (Nat.le_refl _) _).mono hbs)⟩
      apply L_inj
      rw [L_S, HD2.out, L_append]
      simp


theorem rdigN_any (n : Nat) (h : n ≤ 1000) (w : World) :
    Calls Tryz.prog 10 #[.int .i64 (n : Int)] w fun e w' => e = .returned (.string (S (Lib.decDigits n))) ∧ Below w.heap.size w w' := by
  have C1 := Lib.hid (fun W => refDigits_any n (by omega) W)
  have k1 : IntKind.u64.wrap (n : Int) = (n : Int) := by rw [IntKind.wrap_u64]; omega
  go_enter Tryz.func10, Tryz.ntmps10
  go_wp2_with fail
  refine (C1.out _).mono ?_
  rintro e w1 ⟨rfl, hb1⟩
  have HB1 := Lib.hid hb1
  clear hb1
  go_wp2_with fail
  go_ret
  exact ⟨rfl, HB1.out⟩
theorem itoa_nat (n : Nat) : Lib.itoa (n : Int) = Lib.decDigits n := by rw [Lib.itoa, if_neg (by omega)]; simp
end Go.Proofs.YtjeinpadcknfbaaGreatDoor
/-
  ExpandCuts: the walk.
-/
namespace Go.Proofs.YtjeinpadcknfbaaGreatDoor
open Go.RowKit

theorem L_take (t : ByteArray) (n : Nat) : L (t.extract 0 n) = (L t).take n := by rw [S_extract_to, L_S]
theorem L_drop (t : ByteArray) (n : Nat) : L (t.extract n t.size) = (L t).drop n := by rw [S_extract_from, L_S]
set_option maxHeartbeats 4000000 in
set_option maxRecDepth 100000 in
theorem cuts_any (t c : ByteArray) (w : World) (ht : t.size ≤ 140737488355327) (hc : c.size ≤ 140737488355327) (hH : Held w) (hT : Tabx w) :
    Calls Tryz.prog 3 #[.string t, .string c] w fun e w' => e = .returned (.bool true) ∧ Below w.heap.size w w' := by
  have CA := Lib.hid (anchor_any w hH)
  have HH := Lib.hid hH
  have HT := Lib.hid hT
  have h0 := hH.2
  clear hH hT
  by_cases hb1 : 500 < t.size
  · go_enter Tryz.func3, Tryz.ntmps3
    go_wp2_with fail
    refine CA.out.mono ?_
    rintro e w1 ⟨rfl, hb1⟩
    have HB1 := Lib.hid hb1
    clear hb1
    go_wp2_with fail
    go_ret
    exact ⟨rfl, HB1.out⟩
  by_cases hb2 : 100 < c.size
  · go_enter Tryz.func3, Tryz.ntmps3
    go_wp2_with fail
    refine CA.out.mono ?_
    rintro e w1 ⟨rfl, hb1⟩
    have HB1 := Lib.hid hb1
    clear hb1
    go_wp2_with fail
    go_ret
    exact ⟨rfl, HB1.out⟩
  have htz : t.size ≤ 500 := by omega
  have hcz : c.size ≤ 100 := by omega
  clear ht hc hb1 hb2
  have CZ := Lib.hid (fun W => zero_any c W (by omega))
  go_enter Tryz.func3, Tryz.ntmps3
  go_wp2_with fail
  refine CA.out.mono ?_
  rintro e w1 ⟨rfl, hb1⟩
  have HB1 := Lib.hid hb1
  have HH1 := Lib.hid (HH.out.below h0 hb1)
  have HT1 := Lib.hid (HT.out.on hb1)
  clear hb1
  go_wp2_with fail
  refine (CZ.out _).mono ?_
  rintro e w2 ⟨⟨z, rfl⟩, rfl⟩
  cases z
  · have CN := Lib.hid (new_one t (⟨#[120, 61]⟩ ++ t) rfl (by omega) _ 1 _ (elems_made w1 (.string (⟨#[120, 61]⟩ ++ t)) 9 rfl) (HH1.out.below (B := w1.heap.size) HH1.out.2 (by go_grown)))
    go_wp2_with fail
    refine CN.out.mono ?_
    rintro e w2 ⟨g, mb, rfl, hV2, hb2⟩
    have HV2 := Lib.hid hV2
    have HW12 : Hid (Below w1.heap.size w1 w2) := Lib.hid (((Below.refl w1.heap.size w1).alloc (Nat.le_refl _) (.cells #[.string (⟨#[120, 61]⟩ ++ t)] 9)).trans (hb2.mono (by simp)))
    have HB2 : Hid (Below w.heap.size w w2) := Lib.hid (HB1.out.trans (HW12.out.mono HB1.out.size))
    clear hV2 hb2
    go_wp2_with fail
    refine (New_any g _ _ true _).mono ?_
    rintro e w3 ⟨rfl, hx3, hb3⟩
    have HX3 : Hid (XBk w3 (w2.heap.size + 1) g (.iface 29 (.pointer (some ⟨w2.heap.size, 0, none⟩))) true) := Lib.hid (by simpa using hx3)
    have HV3 : Hid (∃ lo mb n, VSt w3 lo g mb n [(xN, xV (L t))] [] 0) := Lib.hid (by
      obtain ⟨v, h⟩ := HV2.out
      exact ⟨_, _, _, v, (h.below ((Below.refl _ _).alloc (Nat.le_refl _) _)).below hb3⟩)
    have HW23 : Hid (Below w2.heap.size w2 w3) := Lib.hid (((Below.refl w2.heap.size w2).alloc (Nat.le_refl _) (.cells #[.string ⟨#[]⟩, .int .i64 0, .slice none 0 0, .slice none 0 0] 32)).trans (hb3.mono (by simp)))
    have HB3 := Lib.hid (HB2.out.trans (HW23.out.mono HB2.out.size))
    have HT3 : Hid (Tabx w3) := Lib.hid (HT1.out.on (HW12.out.trans (HW23.out.mono HW12.out.size)))
    obtain ⟨xg, hxg⟩ : ∃ xg, xg = w2.heap.size + 1 := ⟨_, rfl⟩
    have hxe : (w2.alloc (.cells #[.string ⟨#[]⟩, .int .i64 0, .slice none 0 0, .slice none 0 0] 32)).heap.size = xg := by rw [hxg]; simp
    rw [hxe]
    rw [← hxg] at HX3
    obtain ⟨w4, hw4⟩ : ∃ w4, w4 = w3.alloc (.cells #[.int .i64 1, .bool true, .string c, .string ⟨#[]⟩, .slice none 0 0, .slice none 0 0] 36) := ⟨_, rfl⟩
    have hb4 : Below w3.heap.size w3 w4 := by rw [hw4]; go_grown
    have HWD : Hid (WordAt w4 (some ⟨w3.heap.size, 0, none⟩) 1 ⟨1, true, c, ⟨#[]⟩, none, 0, 0⟩) := Lib.hid (by rw [hw4]; exact part_word w3 c (by omega) rfl)
    have HS4 : Hid (w4.heap.size = w3.heap.size + 1) := Lib.hid (by rw [hw4]; simp)
    have HX4 := Lib.hid (HX3.out.below hb4 HX3.out.lt)
    have HV4 : Hid (∃ lo mb n, VSt w4 lo g mb n [(xN, xV (L t))] [] 0) := Lib.hid (by
      obtain ⟨lo, mb, n, v, h⟩ := HV3.out
      exact ⟨lo, mb, n, v, h.below hb4⟩)
    have HB4 := Lib.hid (HB3.out.trans (hb4.mono HB3.out.size))
    have HT4 := Lib.hid (HT3.out.on hb4)
    have HW4 := Lib.hid hw4
    clear hx3 hb3 hxg hxe hw4 hb4
    by_cases hle : c.size ≤ t.size
    · have l1 : L (t.extract 0 c.size) = (L t).take c.size := L_take t c.size
      have l2 : L (t.extract (t.size - c.size) t.size) = (L t).drop (t.size - c.size) := L_drop t _
      cases hq1 : ((t.extract 0 c.size).toList == c.toList) with
      | true =>
        have HHe : Hid (headS t c = t.extract c.size t.size) := Lib.hid (by rw [headS, if_pos]; refine ⟨hle, ?_⟩; rw [toList_L, toList_L, beq_iff_eq, l1] at hq1; exact hq1)
        cases hq2 : ((t.extract (t.size - c.size) t.size).toList == c.toList) with
        | true =>
          have HTe : Hid (tailS t c = t.extract 0 (t.size - c.size)) := Lib.hid (by rw [tailS, if_pos]; refine ⟨hle, ?_⟩; rw [toList_L, toList_L, beq_iff_eq, l2] at hq2; exact hq2)
          clear l1 l2
          have CT0 : Hid (∀ W h, Below w4.heap.size w4 W → h = W.heap.size → Calls Tryz.prog 9 #[.pointer (some ⟨xg, 0, none⟩), .slice (some ⟨h, 0, none⟩) 1 1] (W.alloc (.cells #[.int .i64 2, .bool true, .string ⟨#[120]⟩, .string ⟨#[35]⟩, .slice (some ⟨w3.heap.size, 0, none⟩) 1 1, .slice none 0 0] 36)) fun e w' => e = .returned (.tuple #[.string (t.extract c.size t.size), .int .i64 0]) ∧ Below W.heap.size W w') := Lib.hid fun W h hW hh => by
            obtain ⟨lo, mb, n, hv⟩ := HV4.out
            have := Text_h xg _ true t c htz hcz (some ⟨w3.heap.size, 0, none⟩) w4 W h HX4.out hv HWD.out hW hh
            rw [HHe.out] at this
            exact this
          have CT1 : Hid (∀ W h, Below w4.heap.size w4 W → h = W.heap.size → Calls Tryz.prog 9 #[.pointer (some ⟨xg, 0, none⟩), .slice (some ⟨h, 0, none⟩) 1 1] (W.alloc (.cells #[.int .i64 2, .bool true, .string ⟨#[120]⟩, .string ⟨#[35, 35]⟩, .slice (some ⟨w3.heap.size, 0, none⟩) 1 1, .slice none 0 0] 36)) fun e w' => e = .returned (.tuple #[.string (t.extract c.size t.size), .int .i64 0]) ∧ Below W.heap.size W w') := Lib.hid fun W h hW hh => by
            obtain ⟨lo, mb, n, hv⟩ := HV4.out
            have := Text_hh xg _ true t c htz hcz (some ⟨w3.heap.size, 0, none⟩) w4 W h HX4.out hv HWD.out hW hh
            rw [HHe.out] at this
            exact this
          have CT2 : Hid (∀ W h, Below w4.heap.size w4 W → h = W.heap.size → Calls Tryz.prog 9 #[.pointer (some ⟨xg, 0, none⟩), .slice (some ⟨h, 0, none⟩) 1 1] (W.alloc (.cells #[.int .i64 2, .bool true, .string ⟨#[120]⟩, .string ⟨#[37]⟩, .slice (some ⟨w3.heap.size, 0, none⟩) 1 1, .slice none 0 0] 36)) fun e w' => e = .returned (.tuple #[.string (t.extract 0 (t.size - c.size)), .int .i64 0]) ∧ Below W.heap.size W w') := Lib.hid fun W h hW hh => by
            obtain ⟨lo, mb, n, hv⟩ := HV4.out
            have := Text_p xg _ true t c htz hcz (some ⟨w3.heap.size, 0, none⟩) w4 W h HX4.out hv HWD.out hW hh
            rw [HTe.out] at this
            exact this
          have CT3 : Hid (∀ W h, Below w4.heap.size w4 W → h = W.heap.size → Calls Tryz.prog 9 #[.pointer (some ⟨xg, 0, none⟩), .slice (some ⟨h, 0, none⟩) 1 1] (W.alloc (.cells #[.int .i64 2, .bool true, .string ⟨#[120]⟩, .string ⟨#[37, 37]⟩, .slice (some ⟨w3.heap.size, 0, none⟩) 1 1, .slice none 0 0] 36)) fun e w' => e = .returned (.tuple #[.string (t.extract 0 (t.size - c.size)), .int .i64 0]) ∧ Below W.heap.size W w') := Lib.hid fun W h hW hh => by
            obtain ⟨lo, mb, n, hv⟩ := HV4.out
            have := Text_pp xg _ true t c htz hcz (some ⟨w3.heap.size, 0, none⟩) w4 W h HX4.out hv HWD.out hW hh
            rw [HTe.out] at this
            exact this
          have CTL : Hid (∀ W h, Below w4.heap.size w4 W → h = W.heap.size → Calls Tryz.prog 9 #[.pointer (some ⟨xg, 0, none⟩), .slice (some ⟨h, 0, none⟩) 1 1] (W.alloc (.cells #[.int .i64 2, .bool false, .string ⟨#[120]⟩, .string ⟨#[108, 101, 110]⟩, .slice none 0 0, .slice none 0 0] 36)) fun e w' => e = .returned (.tuple #[.string (S (Lib.decDigits t.size)), .int .i64 0]) ∧ Below W.heap.size W w') := Lib.hid fun W h hW hh => by
            obtain ⟨lo, mb, n, hv⟩ := HV4.out
            have := Text_ln xg _ true t htz w4 W h HX4.out hv HT4.out hW hh
            rw [itoa_nat] at this
            exact this
          go_wp2_with fail
          rw [← HW4.out]
          obtain ⟨w5, hw5⟩ : ∃ w5, w5 = w4.alloc (.cells #[.string ⟨#[35]⟩, .string ⟨#[35, 35]⟩, .string ⟨#[37]⟩, .string ⟨#[37, 37]⟩] 9) := ⟨_, rfl⟩
          have K5 : Hid (Blk w5 (w3.heap.size + 1) 9 #[.string ⟨#[35]⟩, .string ⟨#[35, 35]⟩, .string ⟨#[37]⟩, .string ⟨#[37, 37]⟩]) := Lib.hid (by rw [hw5]; exact Blk.at HS4.out.symm)
          have HB5 : Hid (Below w4.heap.size w4 w5) := Lib.hid (by rw [hw5]; go_grown)
          have hl5 : w3.heap.size + 1 < w5.heap.size := K5.out.lt
          have o0 := K5.out.cell 0
          simp at o0
          rw [← hw5]
          clear hw5
          refine wp_loop_rounds 5 ?_
          rw [rounds_succ]
          go_wp2_with fail
          refine (CT0.out _ _ HB5.out rfl).mono ?_
          rintro e w6 ⟨rfl, hb6⟩
          have HB6 := Lib.hid (HB5.out.trans (hb6.mono HB5.out.size))
          have K6 := Lib.hid (K5.out.below hb6 hl5)
          have hl6 : w3.heap.size + 1 < w6.heap.size := K6.out.lt
          have o1 := K6.out.cell 1
          simp at o1
          clear hb6 o0 hl5
          go_wp2_with fail
          rw [rounds_succ]
          go_wp2_with fail
          refine (CT1.out _ _ HB6.out rfl).mono ?_
          rintro e w7 ⟨rfl, hb7⟩
          have HB7 := Lib.hid (HB6.out.trans (hb7.mono HB6.out.size))
          have K7 := Lib.hid (K6.out.below hb7 hl6)
          have hl7 : w3.heap.size + 1 < w7.heap.size := K7.out.lt
          have o2 := K7.out.cell 2
          simp at o2
          clear hb7 o1 hl6
          go_wp2_with fail
          rw [rounds_succ]
          go_wp2_with fail
          refine (CT2.out _ _ HB7.out rfl).mono ?_
          rintro e w8 ⟨rfl, hb8⟩
          have HB8 := Lib.hid (HB7.out.trans (hb8.mono HB7.out.size))
          have K8 := Lib.hid (K7.out.below hb8 hl7)
          have hl8 : w3.heap.size + 1 < w8.heap.size := K8.out.lt
          have o3 := K8.out.cell 3
          simp at o3
          clear hb8 o2 hl7
          go_wp2_with fail
          rw [rounds_succ]
          go_wp2_with fail
          refine (CT3.out _ _ HB8.out rfl).mono ?_
          rintro e w9 ⟨rfl, hb9⟩
          have HB9 := Lib.hid (HB8.out.trans (hb9.mono HB8.out.size))
          clear hb9 o3 hl8
          go_wp2_with fail
          rw [rounds_succ]
          go_wp2_with fail
          refine (CTL.out _ _ HB9.out rfl).mono ?_
          rintro e w10 ⟨rfl, hb10⟩
          have HB10 := Lib.hid (HB9.out.trans (hb10.mono HB9.out.size))
          clear hb10
          have CD := Lib.hid (rdigN_any t.size (by omega))
          go_wp2_with fail
          refine (CD.out _).mono ?_
          rintro e w11 ⟨rfl, hb11⟩
          have HB11 := Lib.hid (HB4.out.trans ((HB10.out.trans (hb11.mono HB10.out.size)).mono HB4.out.size))
          clear hb11
          go_wp2_with fail
          go_ret
          exact ⟨rfl, HB11.out⟩
        | false =>
          have HTe : Hid (tailS t c = t) := Lib.hid (by rw [tailS, if_neg]; rintro ⟨_, h⟩; rw [toList_L, toList_L, beq_eq_false_iff_ne, l2] at hq2; exact hq2 h)
          clear l1 l2
          have CT0 : Hid (∀ W h, Below w4.heap.size w4 W → h = W.heap.size → Calls Tryz.prog 9 #[.pointer (some ⟨xg, 0, none⟩), .slice (some ⟨h, 0, none⟩) 1 1] (W.alloc (.cells #[.int .i64 2, .bool true, .string ⟨#[120]⟩, .string ⟨#[35]⟩, .slice (some ⟨w3.heap.size, 0, none⟩) 1 1, .slice none 0 0] 36)) fun e w' => e = .returned (.tuple #[.string (t.extract c.size t.size), .int .i64 0]) ∧ Below W.heap.size W w') := Lib.hid fun W h hW hh => by
            obtain ⟨lo, mb, n, hv⟩ := HV4.out
            have := Text_h xg _ true t c htz hcz (some ⟨w3.heap.size, 0, none⟩) w4 W h HX4.out hv HWD.out hW hh
            rw [HHe.out] at this
            exact this
          have CT1 : Hid (∀ W h, Below w4.heap.size w4 W → h = W.heap.size → Calls Tryz.prog 9 #[.pointer (some ⟨xg, 0, none⟩), .slice (some ⟨h, 0, none⟩) 1 1] (W.alloc (.cells #[.int .i64 2, .bool true, .string ⟨#[120]⟩, .string ⟨#[35, 35]⟩, .slice (some ⟨w3.heap.size, 0, none⟩) 1 1, .slice none 0 0] 36)) fun e w' => e = .returned (.tuple #[.string (t.extract c.size t.size), .int .i64 0]) ∧ Below W.heap.size W w') := Lib.hid fun W h hW hh => by
            obtain ⟨lo, mb, n, hv⟩ := HV4.out
            have := Text_hh xg _ true t c htz hcz (some ⟨w3.heap.size, 0, none⟩) w4 W h HX4.out hv HWD.out hW hh
            rw [HHe.out] at this
            exact this
          have CT2 : Hid (∀ W h, Below w4.heap.size w4 W → h = W.heap.size → Calls Tryz.prog 9 #[.pointer (some ⟨xg, 0, none⟩), .slice (some ⟨h, 0, none⟩) 1 1] (W.alloc (.cells #[.int .i64 2, .bool true, .string ⟨#[120]⟩, .string ⟨#[37]⟩, .slice (some ⟨w3.heap.size, 0, none⟩) 1 1, .slice none 0 0] 36)) fun e w' => e = .returned (.tuple #[.string (t), .int .i64 0]) ∧ Below W.heap.size W w') := Lib.hid fun W h hW hh => by
            obtain ⟨lo, mb, n, hv⟩ := HV4.out
            have := Text_p xg _ true t c htz hcz (some ⟨w3.heap.size, 0, none⟩) w4 W h HX4.out hv HWD.out hW hh
            rw [HTe.out] at this
            exact this
          have CT3 : Hid (∀ W h, Below w4.heap.size w4 W → h = W.heap.size → Calls Tryz.prog 9 #[.pointer (some ⟨xg, 0, none⟩), .slice (some ⟨h, 0, none⟩) 1 1] (W.alloc (.cells #[.int .i64 2, .bool true, .string ⟨#[120]⟩, .string ⟨#[37, 37]⟩, .slice (some ⟨w3.heap.size, 0, none⟩) 1 1, .slice none 0 0] 36)) fun e w' => e = .returned (.tuple #[.string (t), .int .i64 0]) ∧ Below W.heap.size W w') := Lib.hid fun W h hW hh => by
            obtain ⟨lo, mb, n, hv⟩ := HV4.out
            have := Text_pp xg _ true t c htz hcz (some ⟨w3.heap.size, 0, none⟩) w4 W h HX4.out hv HWD.out hW hh
            rw [HTe.out] at this
            exact this
          have CTL : Hid (∀ W h, Below w4.heap.size w4 W → h = W.heap.size → Calls Tryz.prog 9 #[.pointer (some ⟨xg, 0, none⟩), .slice (some ⟨h, 0, none⟩) 1 1] (W.alloc (.cells #[.int .i64 2, .bool false, .string ⟨#[120]⟩, .string ⟨#[108, 101, 110]⟩, .slice none 0 0, .slice none 0 0] 36)) fun e w' => e = .returned (.tuple #[.string (S (Lib.decDigits t.size)), .int .i64 0]) ∧ Below W.heap.size W w') := Lib.hid fun W h hW hh => by
            obtain ⟨lo, mb, n, hv⟩ := HV4.out
            have := Text_ln xg _ true t htz w4 W h HX4.out hv HT4.out hW hh
            rw [itoa_nat] at this
            exact this
          go_wp2_with fail
          rw [← HW4.out]
          obtain ⟨w5, hw5⟩ : ∃ w5, w5 = w4.alloc (.cells #[.string ⟨#[35]⟩, .string ⟨#[35, 35]⟩, .string ⟨#[37]⟩, .string ⟨#[37, 37]⟩] 9) := ⟨_, rfl⟩
          have K5 : Hid (Blk w5 (w3.heap.size + 1) 9 #[.string ⟨#[35]⟩, .string ⟨#[35, 35]⟩, .string ⟨#[37]⟩, .string ⟨#[37, 37]⟩]) := Lib.hid (by rw [hw5]; exact Blk.at HS4.out.symm)
          have HB5 : Hid (Below w4.heap.size w4 w5) := Lib.hid (by rw [hw5]; go_grown)
          have hl5 : w3.heap.size + 1 < w5.heap.size := K5.out.lt
          have o0 := K5.out.cell 0
          simp at o0
          rw [← hw5]
          clear hw5
          refine wp_loop_rounds 5 ?_
          rw [rounds_succ]
          go_wp2_with fail
          refine (CT0.out _ _ HB5.out rfl).mono ?_
          rintro e w6 ⟨rfl, hb6⟩
          have HB6 := Lib.hid (HB5.out.trans (hb6.mono HB5.out.size))
          have K6 := Lib.hid (K5.out.below hb6 hl5)
          have hl6 : w3.heap.size + 1 < w6.heap.size := K6.out.lt
          have o1 := K6.out.cell 1
          simp at o1
          clear hb6 o0 hl5
          go_wp2_with fail
          rw [rounds_succ]
          go_wp2_with fail
          refine (CT1.out _ _ HB6.out rfl).mono ?_
          rintro e w7 ⟨rfl, hb7⟩
          have HB7 := Lib.hid (HB6.out.trans (hb7.mono HB6.out.size))
          have K7 := Lib.hid (K6.out.below hb7 hl6)
          have hl7 : w3.heap.size + 1 < w7.heap.size := K7.out.lt
          have o2 := K7.out.cell 2
          simp at o2
          clear hb7 o1 hl6
          go_wp2_with fail
          rw [rounds_succ]
          go_wp2_with fail
          refine (CT2.out _ _ HB7.out rfl).mono ?_
          rintro e w8 ⟨rfl, hb8⟩
          have HB8 := Lib.hid (HB7.out.trans (hb8.mono HB7.out.size))
          have K8 := Lib.hid (K7.out.below hb8 hl7)
          have hl8 : w3.heap.size + 1 < w8.heap.size := K8.out.lt
          have o3 := K8.out.cell 3
          simp at o3
          clear hb8 o2 hl7
          go_wp2_with fail
          rw [rounds_succ]
          go_wp2_with fail
          refine (CT3.out _ _ HB8.out rfl).mono ?_
          rintro e w9 ⟨rfl, hb9⟩
          have HB9 := Lib.hid (HB8.out.trans (hb9.mono HB8.out.size))
          clear hb9 o3 hl8
          go_wp2_with fail
          rw [rounds_succ]
          go_wp2_with fail
          refine (CTL.out _ _ HB9.out rfl).mono ?_
          rintro e w10 ⟨rfl, hb10⟩
          have HB10 := Lib.hid (HB9.out.trans (hb10.mono HB9.out.size))
          clear hb10
          have CD := Lib.hid (rdigN_any t.size (by omega))
          go_wp2_with fail
          refine (CD.out _).mono ?_
          rintro e w11 ⟨rfl, hb11⟩
          have HB11 := Lib.hid (HB4.out.trans ((HB10.out.trans (hb11.mono HB10.out.size)).mono HB4.out.size))
          clear hb11
          go_wp2_with fail
          go_ret
          exact ⟨rfl, HB11.out⟩
      | false =>
        have HHe : Hid (headS t c = t) := Lib.hid (by rw [headS, if_neg]; rintro ⟨_, h⟩; rw [toList_L, toList_L, beq_eq_false_iff_ne, l1] at hq1; exact hq1 h)
        cases hq2 : ((t.extract (t.size - c.size) t.size).toList == c.toList) with
        | true =>
          have HTe : Hid (tailS t c = t.extract 0 (t.size - c.size)) := Lib.hid (by rw [tailS, if_pos]; refine ⟨hle, ?_⟩; rw [toList_L, toList_L, beq_iff_eq, l2] at hq2; exact hq2)
          clear l1 l2
          have CT0 : Hid (∀ W h, Below w4.heap.size w4 W → h = W.heap.size → Calls Tryz.prog 9 #[.pointer (some ⟨xg, 0, none⟩), .slice (some ⟨h, 0, none⟩) 1 1] (W.alloc (.cells #[.int .i64 2, .bool true, .string ⟨#[120]⟩, .string ⟨#[35]⟩, .slice (some ⟨w3.heap.size, 0, none⟩) 1 1, .slice none 0 0] 36)) fun e w' => e = .returned (.tuple #[.string (t), .int .i64 0]) ∧ Below W.heap.size W w') := Lib.hid fun W h hW hh => by
            obtain ⟨lo, mb, n, hv⟩ := HV4.out
            have := Text_h xg _ true t c htz hcz (some ⟨w3.heap.size, 0, none⟩) w4 W h HX4.out hv HWD.out hW hh
            rw [HHe.out] at this
            exact this
          have CT1 : Hid (∀ W h, Below w4.heap.size w4 W → h = W.heap.size → Calls Tryz.prog 9 #[.pointer (some ⟨xg, 0, none⟩), .slice (some ⟨h, 0, none⟩) 1 1] (W.alloc (.cells #[.int .i64 2, .bool true, .string ⟨#[120]⟩, .string ⟨#[35, 35]⟩, .slice (some ⟨w3.heap.size, 0, none⟩) 1 1, .slice none 0 0] 36)) fun e w' => e = .returned (.tuple #[.string (t), .int .i64 0]) ∧ Below W.heap.size W w') := Lib.hid fun W h hW hh => by
            obtain ⟨lo, mb, n, hv⟩ := HV4.out
            have := Text_hh xg _ true t c htz hcz (some ⟨w3.heap.size, 0, none⟩) w4 W h HX4.out hv HWD.out hW hh
            rw [HHe.out] at this
            exact this
          have CT2 : Hid (∀ W h, Below w4.heap.size w4 W → h = W.heap.size → Calls Tryz.prog 9 #[.pointer (some ⟨xg, 0, none⟩), .slice (some ⟨h, 0, none⟩) 1 1] (W.alloc (.cells #[.int .i64 2, .bool true, .string ⟨#[120]⟩, .string ⟨#[37]⟩, .slice (some ⟨w3.heap.size, 0, none⟩) 1 1, .slice none 0 0] 36)) fun e w' => e = .returned (.tuple #[.string (t.extract 0 (t.size - c.size)), .int .i64 0]) ∧ Below W.heap.size W w') := Lib.hid fun W h hW hh => by
            obtain ⟨lo, mb, n, hv⟩ := HV4.out
            have := Text_p xg _ true t c htz hcz (some ⟨w3.heap.size, 0, none⟩) w4 W h HX4.out hv HWD.out hW hh
            rw [HTe.out] at this
            exact this
          have CT3 : Hid (∀ W h, Below w4.heap.size w4 W → h = W.heap.size → Calls Tryz.prog 9 #[.pointer (some ⟨xg, 0, none⟩), .slice (some ⟨h, 0, none⟩) 1 1] (W.alloc (.cells #[.int .i64 2, .bool true, .string ⟨#[120]⟩, .string ⟨#[37, 37]⟩, .slice (some ⟨w3.heap.size, 0, none⟩) 1 1, .slice none 0 0] 36)) fun e w' => e = .returned (.tuple #[.string (t.extract 0 (t.size - c.size)), .int .i64 0]) ∧ Below W.heap.size W w') := Lib.hid fun W h hW hh => by
            obtain ⟨lo, mb, n, hv⟩ := HV4.out
            have := Text_pp xg _ true t c htz hcz (some ⟨w3.heap.size, 0, none⟩) w4 W h HX4.out hv HWD.out hW hh
            rw [HTe.out] at this
            exact this
          have CTL : Hid (∀ W h, Below w4.heap.size w4 W → h = W.heap.size → Calls Tryz.prog 9 #[.pointer (some ⟨xg, 0, none⟩), .slice (some ⟨h, 0, none⟩) 1 1] (W.alloc (.cells #[.int .i64 2, .bool false, .string ⟨#[120]⟩, .string ⟨#[108, 101, 110]⟩, .slice none 0 0, .slice none 0 0] 36)) fun e w' => e = .returned (.tuple #[.string (S (Lib.decDigits t.size)), .int .i64 0]) ∧ Below W.heap.size W w') := Lib.hid fun W h hW hh => by
            obtain ⟨lo, mb, n, hv⟩ := HV4.out
            have := Text_ln xg _ true t htz w4 W h HX4.out hv HT4.out hW hh
            rw [itoa_nat] at this
            exact this
          go_wp2_with fail
          rw [← HW4.out]
          obtain ⟨w5, hw5⟩ : ∃ w5, w5 = w4.alloc (.cells #[.string ⟨#[35]⟩, .string ⟨#[35, 35]⟩, .string ⟨#[37]⟩, .string ⟨#[37, 37]⟩] 9) := ⟨_, rfl⟩
          have K5 : Hid (Blk w5 (w3.heap.size + 1) 9 #[.string ⟨#[35]⟩, .string ⟨#[35, 35]⟩, .string ⟨#[37]⟩, .string ⟨#[37, 37]⟩]) := Lib.hid (by rw [hw5]; exact Blk.at HS4.out.symm)
          have HB5 : Hid (Below w4.heap.size w4 w5) := Lib.hid (by rw [hw5]; go_grown)
          have hl5 : w3.heap.size + 1 < w5.heap.size := K5.out.lt
          have o0 := K5.out.cell 0
          simp at o0
          rw [← hw5]
          clear hw5
          refine wp_loop_rounds 5 ?_
          rw [rounds_succ]
          go_wp2_with fail
          refine (CT0.out _ _ HB5.out rfl).mono ?_
          rintro e w6 ⟨rfl, hb6⟩
          have HB6 := Lib.hid (HB5.out.trans (hb6.mono HB5.out.size))
          have K6 := Lib.hid (K5.out.below hb6 hl5)
          have hl6 : w3.heap.size + 1 < w6.heap.size := K6.out.lt
          have o1 := K6.out.cell 1
          simp at o1
          clear hb6 o0 hl5
          go_wp2_with fail
          rw [rounds_succ]
          go_wp2_with fail
          refine (CT1.out _ _ HB6.out rfl).mono ?_
          rintro e w7 ⟨rfl, hb7⟩
          have HB7 := Lib.hid (HB6.out.trans (hb7.mono HB6.out.size))
          have K7 := Lib.hid (K6.out.below hb7 hl6)
          have hl7 : w3.heap.size + 1 < w7.heap.size := K7.out.lt
          have o2 := K7.out.cell 2
          simp at o2
          clear hb7 o1 hl6
          go_wp2_with fail
          rw [rounds_succ]
          go_wp2_with fail
          refine (CT2.out _ _ HB7.out rfl).mono ?_
          rintro e w8 ⟨rfl, hb8⟩
          have HB8 := Lib.hid (HB7.out.trans (hb8.mono HB7.out.size))
          have K8 := Lib.hid (K7.out.below hb8 hl7)
          have hl8 : w3.heap.size + 1 < w8.heap.size := K8.out.lt
          have o3 := K8.out.cell 3
          simp at o3
          clear hb8 o2 hl7
          go_wp2_with fail
          rw [rounds_succ]
          go_wp2_with fail
          refine (CT3.out _ _ HB8.out rfl).mono ?_
          rintro e w9 ⟨rfl, hb9⟩
          have HB9 := Lib.hid (HB8.out.trans (hb9.mono HB8.out.size))
          clear hb9 o3 hl8
          go_wp2_with fail
          rw [rounds_succ]
          go_wp2_with fail
          refine (CTL.out _ _ HB9.out rfl).mono ?_
          rintro e w10 ⟨rfl, hb10⟩
          have HB10 := Lib.hid (HB9.out.trans (hb10.mono HB9.out.size))
          clear hb10
          have CD := Lib.hid (rdigN_any t.size (by omega))
          go_wp2_with fail
          refine (CD.out _).mono ?_
          rintro e w11 ⟨rfl, hb11⟩
          have HB11 := Lib.hid (HB4.out.trans ((HB10.out.trans (hb11.mono HB10.out.size)).mono HB4.out.size))
          clear hb11
          go_wp2_with fail
          go_ret
          exact ⟨rfl, HB11.out⟩
        | false =>
          have HTe : Hid (tailS t c = t) := Lib.hid (by rw [tailS, if_neg]; rintro ⟨_, h⟩; rw [toList_L, toList_L, beq_eq_false_iff_ne, l2] at hq2; exact hq2 h)
          clear l1 l2
          have CT0 : Hid (∀ W h, Below w4.heap.size w4 W → h = W.heap.size → Calls Tryz.prog 9 #[.pointer (some ⟨xg, 0, none⟩), .slice (some ⟨h, 0, none⟩) 1 1] (W.alloc (.cells #[.int .i64 2, .bool true, .string ⟨#[120]⟩, .string ⟨#[35]⟩, .slice (some ⟨w3.heap.size, 0, none⟩) 1 1, .slice none 0 0] 36)) fun e w' => e = .returned (.tuple #[.string (t), .int .i64 0]) ∧ Below W.heap.size W w') := Lib.hid fun W h hW hh => by
            obtain ⟨lo, mb, n, hv⟩ := HV4.out
            have := Text_h xg _ true t c htz hcz (some ⟨w3.heap.size, 0, none⟩) w4 W h HX4.out hv HWD.out hW hh
            rw [HHe.out] at this
            exact this
          have CT1 : Hid (∀ W h, Below w4.heap.size w4 W → h = W.heap.size → Calls Tryz.prog 9 #[.pointer (some ⟨xg, 0, none⟩), .slice (some ⟨h, 0, none⟩) 1 1] (W.alloc (.cells #[.int .i64 2, .bool true, .string ⟨#[120]⟩, .string ⟨#[35, 35]⟩, .slice (some ⟨w3.heap.size, 0, none⟩) 1 1, .slice none 0 0] 36)) fun e w' => e = .returned (.tuple #[.string (t), .int .i64 0]) ∧ Below W.heap.size W w') := Lib.hid fun W h hW hh => by
            obtain ⟨lo, mb, n, hv⟩ := HV4.out
            have := Text_hh xg _ true t c htz hcz (some ⟨w3.heap.size, 0, none⟩) w4 W h HX4.out hv HWD.out hW hh
            rw [HHe.out] at this
            exact this
          have CT2 : Hid (∀ W h, Below w4.heap.size w4 W → h = W.heap.size → Calls Tryz.prog 9 #[.pointer (some ⟨xg, 0, none⟩), .slice (some ⟨h, 0, none⟩) 1 1] (W.alloc (.cells #[.int .i64 2, .bool true, .string ⟨#[120]⟩, .string ⟨#[37]⟩, .slice (some ⟨w3.heap.size, 0, none⟩) 1 1, .slice none 0 0] 36)) fun e w' => e = .returned (.tuple #[.string (t), .int .i64 0]) ∧ Below W.heap.size W w') := Lib.hid fun W h hW hh => by
            obtain ⟨lo, mb, n, hv⟩ := HV4.out
            have := Text_p xg _ true t c htz hcz (some ⟨w3.heap.size, 0, none⟩) w4 W h HX4.out hv HWD.out hW hh
            rw [HTe.out] at this
            exact this
          have CT3 : Hid (∀ W h, Below w4.heap.size w4 W → h = W.heap.size → Calls Tryz.prog 9 #[.pointer (some ⟨xg, 0, none⟩), .slice (some ⟨h, 0, none⟩) 1 1] (W.alloc (.cells #[.int .i64 2, .bool true, .string ⟨#[120]⟩, .string ⟨#[37, 37]⟩, .slice (some ⟨w3.heap.size, 0, none⟩) 1 1, .slice none 0 0] 36)) fun e w' => e = .returned (.tuple #[.string (t), .int .i64 0]) ∧ Below W.heap.size W w') := Lib.hid fun W h hW hh => by
            obtain ⟨lo, mb, n, hv⟩ := HV4.out
            have := Text_pp xg _ true t c htz hcz (some ⟨w3.heap.size, 0, none⟩) w4 W h HX4.out hv HWD.out hW hh
            rw [HTe.out] at this
            exact this
          have CTL : Hid (∀ W h, Below w4.heap.size w4 W → h = W.heap.size → Calls Tryz.prog 9 #[.pointer (some ⟨xg, 0, none⟩), .slice (some ⟨h, 0, none⟩) 1 1] (W.alloc (.cells #[.int .i64 2, .bool false, .string ⟨#[120]⟩, .string ⟨#[108, 101, 110]⟩, .slice none 0 0, .slice none 0 0] 36)) fun e w' => e = .returned (.tuple #[.string (S (Lib.decDigits t.size)), .int .i64 0]) ∧ Below W.heap.size W w') := Lib.hid fun W h hW hh => by
            obtain ⟨lo, mb, n, hv⟩ := HV4.out
            have := Text_ln xg _ true t htz w4 W h HX4.out hv HT4.out hW hh
            rw [itoa_nat] at this
            exact this
          go_wp2_with fail
          rw [← HW4.out]
          obtain ⟨w5, hw5⟩ : ∃ w5, w5 = w4.alloc (.cells #[.string ⟨#[35]⟩, .string ⟨#[35, 35]⟩, .string ⟨#[37]⟩, .string ⟨#[37, 37]⟩] 9) := ⟨_, rfl⟩
          have K5 : Hid (Blk w5 (w3.heap.size + 1) 9 #[.string ⟨#[35]⟩, .string ⟨#[35, 35]⟩, .string ⟨#[37]⟩, .string ⟨#[37, 37]⟩]) := Lib.hid (by rw [hw5]; exact Blk.at HS4.out.symm)
          have HB5 : Hid (Below w4.heap.size w4 w5) := Lib.hid (by rw [hw5]; go_grown)
          have hl5 : w3.heap.size + 1 < w5.heap.size := K5.out.lt
          have o0 := K5.out.cell 0
          simp at o0
          rw [← hw5]
          clear hw5
          refine wp_loop_rounds 5 ?_
          rw [rounds_succ]
          go_wp2_with fail
          refine (CT0.out _ _ HB5.out rfl).mono ?_
          rintro e w6 ⟨rfl, hb6⟩
          have HB6 := Lib.hid (HB5.out.trans (hb6.mono HB5.out.size))
          have K6 := Lib.hid (K5.out.below hb6 hl5)
          have hl6 : w3.heap.size + 1 < w6.heap.size := K6.out.lt
          have o1 := K6.out.cell 1
          simp at o1
          clear hb6 o0 hl5
          go_wp2_with fail
          rw [rounds_succ]
          go_wp2_with fail
          refine (CT1.out _ _ HB6.out rfl).mono ?_
          rintro e w7 ⟨rfl, hb7⟩
          have HB7 := Lib.hid (HB6.out.trans (hb7.mono HB6.out.size))
          have K7 := Lib.hid (K6.out.below hb7 hl6)
          have hl7 : w3.heap.size + 1 < w7.heap.size := K7.out.lt
          have o2 := K7.out.cell 2
          simp at o2
          clear hb7 o1 hl6
          go_wp2_with fail
          rw [rounds_succ]
          go_wp2_with fail
          refine (CT2.out _ _ HB7.out rfl).mono ?_
          rintro e w8 ⟨rfl, hb8⟩
          have HB8 := Lib.hid (HB7.out.trans (hb8.mono HB7.out.size))
          have K8 := Lib.hid (K7.out.below hb8 hl7)
          have hl8 : w3.heap.size + 1 < w8.heap.size := K8.out.lt
          have o3 := K8.out.cell 3
          simp at o3
          clear hb8 o2 hl7
          go_wp2_with fail
          rw [rounds_succ]
          go_wp2_with fail
          refine (CT3.out _ _ HB8.out rfl).mono ?_
          rintro e w9 ⟨rfl, hb9⟩
          have HB9 := Lib.hid (HB8.out.trans (hb9.mono HB8.out.size))
          clear hb9 o3 hl8
          go_wp2_with fail
          rw [rounds_succ]
          go_wp2_with fail
          refine (CTL.out _ _ HB9.out rfl).mono ?_
          rintro e w10 ⟨rfl, hb10⟩
          have HB10 := Lib.hid (HB9.out.trans (hb10.mono HB9.out.size))
          clear hb10
          have CD := Lib.hid (rdigN_any t.size (by omega))
          go_wp2_with fail
          refine (CD.out _).mono ?_
          rintro e w11 ⟨rfl, hb11⟩
          have HB11 := Lib.hid (HB4.out.trans ((HB10.out.trans (hb11.mono HB10.out.size)).mono HB4.out.size))
          clear hb11
          go_wp2_with fail
          go_ret
          exact ⟨rfl, HB11.out⟩
    · have HHe : Hid (headS t c = t) := Lib.hid (by rw [headS, if_neg]; rintro ⟨h, _⟩; exact hle h)
      have HTe : Hid (tailS t c = t) := Lib.hid (by rw [tailS, if_neg]; rintro ⟨h, _⟩; exact hle h)
      have CT0 : Hid (∀ W h, Below w4.heap.size w4 W → h = W.heap.size → Calls Tryz.prog 9 #[.pointer (some ⟨xg, 0, none⟩), .slice (some ⟨h, 0, none⟩) 1 1] (W.alloc (.cells #[.int .i64 2, .bool true, .string ⟨#[120]⟩, .string ⟨#[35]⟩, .slice (some ⟨w3.heap.size, 0, none⟩) 1 1, .slice none 0 0] 36)) fun e w' => e = .returned (.tuple #[.string (t), .int .i64 0]) ∧ Below W.heap.size W w') := Lib.hid fun W h hW hh => by
        obtain ⟨lo, mb, n, hv⟩ := HV4.out
        have := Text_h xg _ true t c htz hcz (some ⟨w3.heap.size, 0, none⟩) w4 W h HX4.out hv HWD.out hW hh
        rw [HHe.out] at this
        exact this
      have CT1 : Hid (∀ W h, Below w4.heap.size w4 W → h = W.heap.size → Calls Tryz.prog 9 #[.pointer (some ⟨xg, 0, none⟩), .slice (some ⟨h, 0, none⟩) 1 1] (W.alloc (.cells #[.int .i64 2, .bool true, .string ⟨#[120]⟩, .string ⟨#[35, 35]⟩, .slice (some ⟨w3.heap.size, 0, none⟩) 1 1, .slice none 0 0] 36)) fun e w' => e = .returned (.tuple #[.string (t), .int .i64 0]) ∧ Below W.heap.size W w') := Lib.hid fun W h hW hh => by
        obtain ⟨lo, mb, n, hv⟩ := HV4.out
        have := Text_hh xg _ true t c htz hcz (some ⟨w3.heap.size, 0, none⟩) w4 W h HX4.out hv HWD.out hW hh
        rw [HHe.out] at this
        exact this
      have CT2 : Hid (∀ W h, Below w4.heap.size w4 W → h = W.heap.size → Calls Tryz.prog 9 #[.pointer (some ⟨xg, 0, none⟩), .slice (some ⟨h, 0, none⟩) 1 1] (W.alloc (.cells #[.int .i64 2, .bool true, .string ⟨#[120]⟩, .string ⟨#[37]⟩, .slice (some ⟨w3.heap.size, 0, none⟩) 1 1, .slice none 0 0] 36)) fun e w' => e = .returned (.tuple #[.string (t), .int .i64 0]) ∧ Below W.heap.size W w') := Lib.hid fun W h hW hh => by
        obtain ⟨lo, mb, n, hv⟩ := HV4.out
        have := Text_p xg _ true t c htz hcz (some ⟨w3.heap.size, 0, none⟩) w4 W h HX4.out hv HWD.out hW hh
        rw [HTe.out] at this
        exact this
      have CT3 : Hid (∀ W h, Below w4.heap.size w4 W → h = W.heap.size → Calls Tryz.prog 9 #[.pointer (some ⟨xg, 0, none⟩), .slice (some ⟨h, 0, none⟩) 1 1] (W.alloc (.cells #[.int .i64 2, .bool true, .string ⟨#[120]⟩, .string ⟨#[37, 37]⟩, .slice (some ⟨w3.heap.size, 0, none⟩) 1 1, .slice none 0 0] 36)) fun e w' => e = .returned (.tuple #[.string (t), .int .i64 0]) ∧ Below W.heap.size W w') := Lib.hid fun W h hW hh => by
        obtain ⟨lo, mb, n, hv⟩ := HV4.out
        have := Text_pp xg _ true t c htz hcz (some ⟨w3.heap.size, 0, none⟩) w4 W h HX4.out hv HWD.out hW hh
        rw [HTe.out] at this
        exact this
      have CTL : Hid (∀ W h, Below w4.heap.size w4 W → h = W.heap.size → Calls Tryz.prog 9 #[.pointer (some ⟨xg, 0, none⟩), .slice (some ⟨h, 0, none⟩) 1 1] (W.alloc (.cells #[.int .i64 2, .bool false, .string ⟨#[120]⟩, .string ⟨#[108, 101, 110]⟩, .slice none 0 0, .slice none 0 0] 36)) fun e w' => e = .returned (.tuple #[.string (S (Lib.decDigits t.size)), .int .i64 0]) ∧ Below W.heap.size W w') := Lib.hid fun W h hW hh => by
        obtain ⟨lo, mb, n, hv⟩ := HV4.out
        have := Text_ln xg _ true t htz w4 W h HX4.out hv HT4.out hW hh
        rw [itoa_nat] at this
        exact this
      go_wp2_with fail
      rw [← HW4.out]
      obtain ⟨w5, hw5⟩ : ∃ w5, w5 = w4.alloc (.cells #[.string ⟨#[35]⟩, .string ⟨#[35, 35]⟩, .string ⟨#[37]⟩, .string ⟨#[37, 37]⟩] 9) := ⟨_, rfl⟩
      have K5 : Hid (Blk w5 (w3.heap.size + 1) 9 #[.string ⟨#[35]⟩, .string ⟨#[35, 35]⟩, .string ⟨#[37]⟩, .string ⟨#[37, 37]⟩]) := Lib.hid (by rw [hw5]; exact Blk.at HS4.out.symm)
      have HB5 : Hid (Below w4.heap.size w4 w5) := Lib.hid (by rw [hw5]; go_grown)
      have hl5 : w3.heap.size + 1 < w5.heap.size := K5.out.lt
      have o0 := K5.out.cell 0
      simp at o0
      rw [← hw5]
      clear hw5
      refine wp_loop_rounds 5 ?_
      rw [rounds_succ]
      go_wp2_with fail
      refine (CT0.out _ _ HB5.out rfl).mono ?_
      rintro e w6 ⟨rfl, hb6⟩
      have HB6 := Lib.hid (HB5.out.trans (hb6.mono HB5.out.size))
      have K6 := Lib.hid (K5.out.below hb6 hl5)
      have hl6 : w3.heap.size + 1 < w6.heap.size := K6.out.lt
      have o1 := K6.out.cell 1
      simp at o1
      clear hb6 o0 hl5
      go_wp2_with fail
      rw [rounds_succ]
      go_wp2_with fail
      refine (CT1.out _ _ HB6.out rfl).mono ?_
      rintro e w7 ⟨rfl, hb7⟩
      have HB7 := Lib.hid (HB6.out.trans (hb7.mono HB6.out.size))
      have K7 := Lib.hid (K6.out.below hb7 hl6)
      have hl7 : w3.heap.size + 1 < w7.heap.size := K7.out.lt
      have o2 := K7.out.cell 2
      simp at o2
      clear hb7 o1 hl6
      go_wp2_with fail
      rw [rounds_succ]
      go_wp2_with fail
      refine (CT2.out _ _ HB7.out rfl).mono ?_
      rintro e w8 ⟨rfl, hb8⟩
      have HB8 := Lib.hid (HB7.out.trans (hb8.mono HB7.out.size))
      have K8 := Lib.hid (K7.out.below hb8 hl7)
      have hl8 : w3.heap.size + 1 < w8.heap.size := K8.out.lt
      have o3 := K8.out.cell 3
      simp at o3
      clear hb8 o2 hl7
      go_wp2_with fail
      rw [rounds_succ]
      go_wp2_with fail
      refine (CT3.out _ _ HB8.out rfl).mono ?_
      rintro e w9 ⟨rfl, hb9⟩
      have HB9 := Lib.hid (HB8.out.trans (hb9.mono HB8.out.size))
      clear hb9 o3 hl8
      go_wp2_with fail
      rw [rounds_succ]
      go_wp2_with fail
      refine (CTL.out _ _ HB9.out rfl).mono ?_
      rintro e w10 ⟨rfl, hb10⟩
      have HB10 := Lib.hid (HB9.out.trans (hb10.mono HB9.out.size))
      clear hb10
      have CD := Lib.hid (rdigN_any t.size (by omega))
      go_wp2_with fail
      refine (CD.out _).mono ?_
      rintro e w11 ⟨rfl, hb11⟩
      have HB11 := Lib.hid (HB4.out.trans ((HB10.out.trans (hb11.mono HB10.out.size)).mono HB4.out.size))
      clear hb11
      go_wp2_with fail
      go_ret
      exact ⟨rfl, HB11.out⟩
  · go_wp2_with fail
    go_ret
    exact ⟨rfl, HB1.out⟩
end Go.Proofs.YtjeinpadcknfbaaGreatDoor
/-
  The table of the powers of ten, out of the listed variables.
-/
namespace Go.Proofs.YtjeinpadcknfbaaGreatDoor
open Go.Shelf Go.RowKit Go.Lib

theorem tabx_of {W : World} (h : laidMetH Tryz.prog Rows.expandCutsRow.laid W) : Tabx W := by
  rw [MakeChecks.laidMetH_plain _ _ _ (by kernel_rfl)] at h
  obtain ⟨ps, ⟨g0, t0, cs0, f0, p0, q0, hg0, ht0, hv0, hd0, ⟨g1, t1, cs1, f1, p1, q1, hg1, ht1, hv1, hd1, ⟨g2, t2, cs2, f2, p2, q2, hg2, ht2, hv2, hd2, _, _⟩, _⟩, _⟩, _, _⟩ := h
  have hg : Tryz.prog.globalNamed "internal/strconv.uint64pow10" = some 1 := by kernel_rfl
  have hty : (Tryz.prog.globals[1]?).map (·.type) = some 186 := by kernel_rfl
  obtain rfl := Option.some.inj (hg.symm.trans hg2)
  obtain rfl := Option.some.inj (hty.symm.trans ht2)
  have hT : TabIs Tryz.prog W "internal/strconv.uint64pow10" .u64 pow10Tab := by
    unfold TabIs
    rw [hv2, ← cells_of_tab (k := .u64) (zs := pow10Tab) Tryz.underlying186 Tryz.underlying63 (by kernel_rfl) (by kernel_rfl) hd2]
  exact ⟨hT, World.block_lt_of_cell? W _ (hT.cell hg 0 (by decide))⟩
end Go.Proofs.YtjeinpadcknfbaaGreatDoor
/-
  The frame of a law's proof: what its arguments are when the call begins; that they read behind the call as they did.
-/
namespace Go.Proofs.YtjeinpadcknfbaaGreatDoor
open Go.ChangeShapes Go.WideShapes Go.ChangeAt Go.RowKit

theorem Tryz.own : ownKnob Tryz.prog.godebug = none := by kernel_rfl
theorem Tryz.laidOut : laidOutB Tryz.prog = true := by kernel_rfl

/-- All arguments read behind the call as before, where nothing has turned that was there. -/
theorem below_trodAll {H : Type} {enc : TypeId × Value → H} {P : Program} (hl : laidOutB P = true) {W W' : World} (hb : Below W.heap.size W W') :
    ∀ (ts : List TypeId) (vs : List Value) (ds : List (DataW H)) (ps : List MemPlace), (∀ t ∈ ts, P.readableRec t = true) → (∀ t ∈ ts, t < P.types.size) → (∀ x ∈ ps, x.block < W.heap.size) →
      DataW.TrodAll enc P W 0 (fun _ => true) true ts vs ds ps → DataW.TrodAll enc P W' 0 (fun b => decide (b < W.heap.size)) true ts vs ds ps := by
  intro ts
  induction ts with
  | nil =>
    intro vs ds ps _ _ _ h
    obtain ⟨rfl, rfl, rfl⟩ := trodAll_nil h
    rfl
  | cons t ts ih =>
    intro vs ds ps h1 h2 h3 h
    obtain ⟨v, vs', d, ds', p, q, rfl, rfl, rfl, ht, hts⟩ := trodAll_cons h
    exact trodAll_cons_mk (Below.trod hl (h1 t (by simp)) (h2 t (by simp)) ht hb (fun x hx => h3 x (by simp [hx])))
      (ih vs' ds' q (fun t ht => h1 t (by simp [ht])) (fun t ht => h2 t (by simp [ht])) (fun x hx => h3 x (by simp [hx])) hts)

section
variable {H : Type} {enc : TypeId × Value → H} {P : Program} {W : World}

/-- A slice of strings that came in. -/
theorem open_strs {t e : TypeId} {v : Value} {d : DataW H} {p : List MemPlace} (ht : P.underlying t = some (.slice e)) (he : P.underlying e = some .string) (hc : P.cellsOf e = 1) {r : Reach} {base : Nat}
    (hok : Value.okWide P W r base t v) (h : DataW.Trod enc P W 0 (fun _ => true) true t v d p) (hlt : ∀ x ∈ p, x.block < W.heap.size) :
    ∃ a n cap ss, v = .slice a n cap ∧ Elems W W.heap.size a n ((ss : List ByteArray).map Value.string) ∧ ∀ s ∈ ss, s.size ≤ maxLen := by
  obtain ⟨a0, len, cap, rfl⟩ := okWide_slice ht hok
  obtain ⟨fuel, hf⟩ := h
  rcases open_strings ht he hc hf with ⟨hcs, hx⟩ | ⟨a, len', cap', ss, hcs, _, hl, hm, hz, hx, hcell, hws⟩
  · simp [Value.cells] at hcs
    obtain ⟨rfl, rfl, rfl⟩ := hcs
    exact ⟨none, 0, 0, [], rfl, ⟨rfl, Nat.zero_le _, .inl rfl⟩, by simp⟩
  · simp [Value.cells] at hcs
    obtain ⟨rfl, rfl, rfl⟩ := hcs
    simp only [Prod.mk.injEq] at hx
    obtain ⟨rfl, rfl⟩ := hx
    simp only [if_true] at hz
    refine ⟨some a, len, cap, ss.take len, rfl, ⟨by simp; omega, by omega, ?_⟩, fun s hs => hws s (List.mem_of_mem_take hs)⟩
    by_cases hl0 : len = 0
    · exact .inl hl0
    · obtain ⟨b, off, spot⟩ := a
      have hspot : spot = none := by simpa [Addr.add] using World.cell?_spot (hcell 0 (by omega))
      subst hspot
      refine .inr ⟨b, off, rfl, hlt (.cell b off) (MemPlace.mem_row.2 ⟨0, by omega, by simp⟩), fun i hi => ?_⟩
      rw [← addr_add, hcell i (by omega)]
      simp [hi, List.getD, List.getElem?_eq_getElem (show i < ss.length by omega)]

/-- The same; and no string is longer than the call's reach. -/
theorem open_strs_z {t e : TypeId} {v : Value} {d : DataW H} {p : List MemPlace} (ht : P.underlying t = some (.slice e)) (he : P.underlying e = some .string) (hc : P.cellsOf e = 1) {r : Reach} {base : Nat}
    (hok : Value.okWide P W r base t v) (h : DataW.Trod enc P W 0 (fun _ => true) true t v d p) (hlt : ∀ x ∈ p, x.block < W.heap.size) {Z : Nat} (hz : ∀ n ∈ d.weights P t, n ≤ Z) :
    ∃ a n cap ss, v = .slice a n cap ∧ Elems W W.heap.size a n ((ss : List ByteArray).map Value.string) ∧ ∀ s ∈ ss, s.size ≤ Z := by
  obtain ⟨a0, len, cap, rfl⟩ := okWide_slice ht hok
  obtain ⟨fuel, hf⟩ := h
  rcases open_strings ht he hc hf with ⟨hcs, hx⟩ | ⟨a, len', cap', ss, hcs, _, hl, hm, hz2, hx, hcell, hws⟩
  · simp [Value.cells] at hcs
    obtain ⟨rfl, rfl, rfl⟩ := hcs
    exact ⟨none, 0, 0, [], rfl, ⟨rfl, Nat.zero_le _, .inl rfl⟩, by simp⟩
  · simp [Value.cells] at hcs
    obtain ⟨rfl, rfl, rfl⟩ := hcs
    simp only [Prod.mk.injEq] at hx
    obtain ⟨rfl, rfl⟩ := hx
    simp only [if_true] at hz2
    refine ⟨some a, len, cap, ss.take len, rfl, ⟨by simp; omega, by omega, ?_⟩, fun s hs => ?_⟩
    · by_cases hl0 : len = 0
      · exact .inl hl0
      · obtain ⟨b, off, spot⟩ := a
        have hspot : spot = none := by simpa [Addr.add] using World.cell?_spot (hcell 0 (by omega))
        subst hspot
        refine .inr ⟨b, off, rfl, hlt (.cell b off) (MemPlace.mem_row.2 ⟨0, by omega, by simp⟩), fun i hi => ?_⟩
        rw [← addr_add, hcell i (by omega)]
        simp [hi, List.getD, List.getElem?_eq_getElem (show i < ss.length by omega)]
    · refine hz _ ?_
      have key : ∀ l : List ByteArray, s ∈ l → s.size ∈ DataW.weightsAll P e (strs l : List (DataW H)) := by
        intro l
        induction l with
        | nil => intro h; simp at h
        | cons x l ih =>
          intro h
          simp only [strs, List.map_cons, DataW.weightsAll, DataW.weights]
          rcases List.mem_cons.1 h with rfl | h
          · exact List.mem_append_left _ (by simp)
          · exact List.mem_append_right _ (ih h)
      simp only [DataW.weights, ht]
      exact List.mem_cons_of_mem _ (List.mem_append_left _ (key _ hs))
end

/-- A law's end: it has returned true, and nothing has turned that was there. -/
theorem law_post {H : Type} {enc : TypeId × Value → H} {fn : Func} {s : ChangeSpec} {W W' : World} {args : Array Value} {ds : List (DataW H)} {p : List MemPlace}
    (hv : s.vars = []) (hs : s.fn H (ds ++ []) = { results := [.lit (.bool true)], args := ds }) (hres : fn.resultTypes = #[4])
    (hr : fn.params.toList.all (fun t => Tryz.prog.readableRec t && decide (t < Tryz.prog.types.size)) = true)
    (hW : DataW.Whole enc Tryz.prog fn.params.toList s.vars false W args.toList ds [] p)
    (hA : DataW.TrodAll enc Tryz.prog W 0 (fun _ => true) true fn.params.toList args.toList ds p) (hb : Below W.heap.size W W') :
    s.post enc Tryz.prog fn false true false false W args (.bool true) W' := by
  have hlt : ∀ x ∈ p, x.block < W.heap.size := fun x hx => by simpa using hW.lt x hx
  refine ⟨_, _, _, [], p, [], hW, ?_, ?_, ?_, hb.frame _, fun h => by cases h⟩
  · rw [hs, hres]; exact trodAll_mk1 (shut_bool Tryz.underlying4 true)
  · rw [hs]; exact below_trodAll Tryz.laidOut hb _ _ _ _ (fun t ht => (by simpa using (List.all_eq_true.1 hr) t ht : _ ∧ _).1) (fun t ht => (by simpa using (List.all_eq_true.1 hr) t ht : _ ∧ _).2) hlt hA
  · rw [hs, hv]; rfl
end Go.Proofs.YtjeinpadcknfbaaGreatDoor
/-
  The wrap for a row that lists variables, the world's shape kept; strings.Split's cell out of the shape.
-/
namespace Go.Proofs.YtjeinpadcknfbaaGreatDoor
open Go.ChangeShapes Go.WideShapes Go.ChangeAt Go.RowKit

theorem held_of_shape {W : World} (h : W.ShapedOpen Tryz.prog) : Held W := by
  obtain ⟨c, hc⟩ := Go.Proofs.cell_of_shapedOpen_int (g := 0) (zero := #[.int .i64 0]) (t := 3) h (of_decide_eq_true (by kernel_rfl)) (by kernel_rfl) rfl (by kernel_rfl) (by kernel_rfl) Tryz.underlying3
  exact ⟨⟨c, hc⟩, Nat.lt_of_le_of_lt (Nat.zero_le _) (World.block_lt_of_cell? W _ hc)⟩

theorem returns_laid {H : Type} {enc : TypeId × Value → H} {a : Assume} {C : Checked} {os : Os} {f : FuncId} {fn : Func} {s : ChangeSpec} {conds : List PathCond} {apart fresh handsOn again : Bool} {X : World → Array Value → Prop}
    (hX : ∀ (w w' : World) (args : Array Value), w.heap = w'.heap → X w args → X w' args)
    (own : ownKnob C.prog.godebug = none) (started : os.Started) (noInit : C.prog.inits.idxOf? f = none) (hfn : C.prog.funcs[f]? = some fn)
    (witness : ∃ (w : World) (tape : Tape) (i : Input), w.os = os ∧ (w.forCall tape i).Shaped C.prog ∧ i.vars = [] ∧ Input.okWide C.prog (w.forCall tape i) .any w.heap.size f i ∧
      ((s.pre enc C.prog fn conds apart (w.forCall tape i).memory i.args ∧ X (w.forCall tape i).memory i.args) ∧ sizedMet enc C.prog fn (OpenSpec.ofChange s) apart (w.forCall tape i).memory i.args) ∧ a.holds C.prog (lone (Frame.enter C.prog f i.args .normal) [] (w.forCall tape i)))
    (contract : ∀ (W : World) (base : Nat) (args : Array Value) (ds gs : List (DataW H)) (before : List MemPlace),
      (∀ (j : Nat) t v, fn.params[j]? = some t → args[j]? = some v → Value.okWide C.prog W .any base t v) →
      DataW.Whole enc C.prog fn.params.toList s.vars apart W args.toList ds gs before →
      (DataW.weightsEach C.prog (fn.params.toList ++ s.plain.varTypes C.prog) (ds ++ gs)).all (· ≤ reachBytes) = true → X W args → W.ShapedOpen C.prog →
      Calls C.prog f args W fun e W' => ∃ v, e = .returned v ∧ s.post enc C.prog fn apart fresh handsOn again W args v W') :
    ReturnsInHanded a C os f .any (fun w args => (s.pre enc C.prog fn conds apart w args ∧ X w args) ∧ sizedMet enc C.prog fn (OpenSpec.ofChange s) apart w args) (s.post enc C.prog fn apart fresh handsOn again) := by
  refine returnsInHanded_of_calls own started noInit witness ?_
  intro w tape i _ hsh _ hok hpre _
  obtain ⟨_, _, _, fn', hfn', _, _, _, _, hval⟩ := hok
  obtain rfl : fn' = fn := Option.some.inj (hfn'.symm.trans hfn)
  obtain ⟨⟨⟨ds, gs, before, hw, _⟩, hx⟩, hz⟩ := hpre
  have hw' := DataW.Whole.of_heap (w' := w.forCall tape i) (by rfl) hw
  refine (contract (w.forCall tape i) w.heap.size i.args ds gs before hval hw' (hz.weights hw) (hX _ _ _ (by rfl) hx) hsh).mono fun e W' ⟨v, he, hp⟩ => ?_
  subst he
  exact ChangeSpec.post_blind hp
end Go.Proofs.YtjeinpadcknfbaaGreatDoor
namespace Go.Proofs.YtjeinpadcknfbaaGreatDoor
open Go.ChangeShapes Go.WideShapes Go.ChangeAt Go.RowKit

set_option maxRecDepth 100000 in
theorem expandCuts_lifted (os : Os) (started : os.Started) (H : Type) (enc : TypeId × Value → H) :
    ReturnsInHanded {} Tryz.checked os 3 .any (fun w args => (Rows.expandCutsSpec.pre enc Tryz.prog Tryz.f3 Rows.expandCutsRow.domain false w args ∧ laidMetH Tryz.prog Rows.expandCutsRow.laid w) ∧ sizedMet enc Tryz.prog Tryz.f3 (OpenSpec.ofChange Rows.expandCutsSpec) false w args)
      (Rows.expandCutsSpec.post enc Tryz.prog Tryz.f3 false true false false) := by
  refine returns_laid (C := Tryz.checked) (X := fun w _ => laidMetH Tryz.prog Rows.expandCutsRow.laid w) (fun _ _ _ hh h => h.of_heap hh) Tryz.own started (by kernel_rfl) Tryz.func3
    (ChangeSpec.witness_shaped (enc := enc) (C := Tryz.checked) (os := os) (X := fun w _ => laidMetH Tryz.prog Rows.expandCutsRow.laid w) false (World.laidAll Tryz.prog os Rows.expandCutsRow.laid) #[.string ⟨#[]⟩, .string ⟨#[]⟩] 8 (World.laidAll_os _ _ _)
      (World.shaped_of_ZipB (by kernel_rfl) (by kernel_rfl)) (by kernel_rfl) (by kernel_rfl) (by kernel_rfl)
      (by rw [MakeChecks.laidMetH_plain _ _ _ (by kernel_rfl)]; exact laidMet_laidAll _ (by kernel_rfl) (by kernel_rfl))) ?_
  intro W base args ds gs before hval0 hW hz0 hL hsh
  have hval : ∀ (j : Nat) t v, Tryz.f3.params[j]? = some t → args[j]? = some v → Value.okWide Tryz.prog W .any base t v := hval0
  have hW' := hW
  obtain ⟨p, q, hA0, hV, rfl, _, _⟩ := hW
  have hA : DataW.TrodAll enc Tryz.prog W 0 (fun _ => true) true Tryz.f3.params.toList args.toList ds p := hA0
  have hAk := hA
  obtain ⟨rfl, rfl⟩ := trodVars_none hV
  simp only [List.append_nil] at hW'
  have hlt : ∀ x ∈ p, x.block < W.heap.size := fun x hx => by simpa using hW'.lt x hx
  rw [Tryz.params3] at hA hval
  obtain ⟨v0, vs0, d0, ds0, p0, q0, hargs, rfl, rfl, h0, r0⟩ := trodAll_cons hA
  obtain ⟨v1, vs1, d1, ds1, p1, q1, rfl, rfl, rfl, h1, r1⟩ := trodAll_cons r0
  obtain ⟨rfl, rfl, rfl⟩ := trodAll_nil r1
  obtain rfl : args = #[v0, v1] := by cases args; simp_all
  have hz : (DataW.weightsEach Tryz.prog (Tryz.f3.params.toList ++ Rows.expandCutsSpec.plain.varTypes Tryz.prog) (_ ++ _)).all (· ≤ reachBytes) = true := hz0
  rw [Tryz.params3] at hz
  obtain ⟨s0, rfl, rfl, rfl, ws0⟩ := ChangeMaps.open_string Tryz.underlying9 (hval 0 9 v0 rfl rfl) h0
  obtain ⟨s1, rfl, rfl, rfl, ws1⟩ := ChangeMaps.open_string Tryz.underlying9 (hval 1 9 v1 rfl rfl) h1
  have z0 : s0.size ≤ 140737488355327 := Nat.le_trans (sized_string (j := 0) hz rfl rfl) (by decide)
  have z1 : s1.size ≤ 140737488355327 := Nat.le_trans (sized_string (j := 1) hz rfl rfl) (by decide)
  clear hA0 hval0
  refine (cuts_any s0 s1 W z0 z1 (held_of_shape hsh) (tabx_of hL)).mono fun e W' ⟨he, hb⟩ => ?_
  subst he
  exact ⟨_, rfl, law_post rfl rfl rfl (by kernel_rfl) hW' hAk hb⟩

theorem expandCuts_row : Rows.ExpandCutsSaid :=
  OpenClaim.holds_of_wide 3 Tryz.f3 rfl rfl rfl rfl rfl rfl rfl ⟨rfl, rfl, rfl, rfl, rfl⟩ rfl rfl rfl rfl rfl (by kernel_rfl) Tryz.func3 (by kernel_rfl)
    (of_decide_eq_true (by kernel_rfl)) (by unfold Func.isWrapper; first | (rw [if_pos (by decide +kernel)]; kernel_rfl) | (rw [if_neg (by decide +kernel)]; exact ⟨rfl, rfl⟩))
    (fun os started H enc _ => expandCuts_lifted os started H enc)

theorem expandCuts_holds : Rows.ExpandCutsCardSaid :=
  Claim7.holds_tied_plain_at .later [] [.data, .data, .data, .data, .sentinel, .sentinel, .pinned] true (true, "26953628d177bbafa42e1257007d20e76d6f49a19e4b77472a007fea72157505") true expandCuts_row (fun _ h => by cases h) (by kernel_rfl) (fun _ h => by cases h) expandCuts_row_tie rfl ⟨rfl, rfl⟩ (by kernel_rfl) rfl
    (fun f fn hf hfn => by
      obtain rfl : f = 3 := Option.some.inj ((show Tryz.prog.funcNamed "seabag/seabaglaw20.ExpandCuts" = some 3 by kernel_rfl).symm.trans hf) |>.symm
      obtain rfl : fn = Tryz.f3 := (Option.some.inj (Tryz.func3.symm.trans hfn)).symm
      exact ⟨by kernel_rfl, fun j t ht => by
        rw [Tryz.params3] at ht
        have hm : t ∈ [9, 9] := by simpa using Array.mem_of_getElem? ht
        have hall : ([9, 9].all fun u => !Tryz.prog.wantsStandIn u) = true := by kernel_rfl
        exact (show Tryz.prog.wantsStandIn t = false by simpa using List.all_eq_true.1 hall t hm)⟩)
    (by kernel_rfl)

#print axioms expandCuts_holds
end Go.Proofs.YtjeinpadcknfbaaGreatDoor
