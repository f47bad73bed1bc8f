/-
  Walks of uu.Encode and of what it asks of a mode and a name.
-/
import Derived.Test.YtjnknckbdfgjlaaU1
import Derived.Test.YtjnknckbdfgjlaaBld
import Derived.Test.YtjnknckbdfgjlaaShelf
import Derived.Lib.IndexAny
namespace Go.Proofs.Ytjnknckbdfgjlaa
open Go.RowKit

theorem isEmpty_L (s : ByteArray) : s.toList.isEmpty = (L s).isEmpty := by rw [toList_L]

theorem indexByte_any (s : ByteArray) (c : Int) (b : Bool) (w : World) (hb : (L s).contains c.toNat.toUInt8 = b) :
    Calls Try.prog 20 #[.string s, .int .u8 c] w fun e w' => (∃ n : Int, e = .returned (.int .i64 n) ∧ decide (0 ≤ n) = b) ∧ w = w' :=
  (Try.strings_IndexByte s c w).mono fun e w' ⟨h1, h2⟩ => ⟨⟨_, h1, by rw [← hb, Lib.contains_iff_indexByte]; rfl⟩, h2.symm⟩

/-- May it be a path? -/
def rightB (l : List UInt8) : Bool := !l.isEmpty && decide (l.length ≤ 4095) && !l.contains 0

theorem right_any (s : ByteArray) (w : World) (hs : s.size ≤ maxLen) :
    Calls Try.prog 19 #[.string s] w fun e w' => e = .returned (.bool (rightB (L s))) ∧ w = w' := by
  unfold maxLen at hs
  by_cases h0 : (L s).isEmpty = true
  · have e0 : s.toList.isEmpty = true := by rw [isEmpty_L]; exact h0
    have H0 := Lib.hid h0
    clear h0
    go_enter Try.func19, Try.ntmps19
    go_wp2_with fail
    go_ret
    exact ⟨ret_bool (by rw [rightB, H0.out]; rfl), rfl⟩
  · have h0' : (L s).isEmpty = false := by simpa using h0
    have e0 : s.toList.isEmpty = false := by rw [isEmpty_L]; exact h0'
    have H0 := Lib.hid h0'
    clear h0 h0'
    by_cases h1 : s.size ≤ 4095
    · have H1 := Lib.hid h1
      go_enter Try.func19, Try.ntmps19
      go_wp2_with fail
      refine (indexByte_any s 0 _ _ rfl).mono ?_
      rintro e w' ⟨⟨n, rfl, hn⟩, rfl⟩
      have HN := Lib.hid hn
      clear hn
      go_wp2_with fail
      go_ret
      refine ⟨ret_bool ?_, rfl⟩
      have h2 : (L s).length ≤ 4095 := H1.out
      have h4 : decide (n < 0) = !decide (0 ≤ n) := by rw [Bool.eq_iff_iff]; simp
      have h3 := HN.out
      rw [show ((0 : Int).toNat.toUInt8) = (0 : UInt8) from rfl] at h3
      rw [rightB, H0.out, ← h3]
      simp [h2, h4]
    · go_enter Try.func19, Try.ntmps19
      have H1 := Lib.hid h1
      go_wp2_with fail
      go_ret
      refine ⟨ret_bool ?_, rfl⟩
      have h2 : ¬ (L s).length ≤ 4095 := H1.out
      rw [rightB, H0.out]
      simp [h2]

theorem modeRight_any (m : Int) (w : World) (b : Bool) (hb : (decide (0 ≤ m) && decide (m ≤ 4095)) = b) :
    Calls Try.prog 18 #[.int .i64 m] w fun e w' => e = .returned (.bool b) ∧ w = w' := by
  subst hb
  by_cases h0 : 0 ≤ m
  all_goals
    go_enter Try.func18, Try.ntmps18
    go_wp2_with fail
    go_ret
    exact ⟨ret_bool (by simp [h0]; try omega), rfl⟩

/-! ### Encode -/
/-- The lines of bytes, without the first one. -/
def restL (l : List UInt8) : List UInt8 := if l = [] then lineL [] ++ [101, 110, 100, 10] else lineL (l.take 45) ++ restL (l.drop 45)
  termination_by l.length
  decreasing_by
    rename_i h
    have : 0 < l.length := List.length_pos_iff.2 h
    simp; omega
theorem restL_nil : restL [] = [96, 10, 101, 110, 100, 10] := by rw [restL, if_pos rfl]; rfl
theorem restL_cons {l : List UInt8} (h : l ≠ []) : restL l = lineL (l.take 45) ++ restL (l.drop 45) := by rw [restL, if_neg h]

theorem lineL_len (l : List UInt8) : (lineL l).length = 4 * ((l.length + 2) / 3) + 2 := by
  simp [lineL, bodyTo_len]

theorem restL_len : ∀ (n : Nat) (l : List UInt8), l.length ≤ n → (restL l).length ≤ 6 * l.length + 6 := by
  intro n
  induction n with
  | zero =>
    intro l hl
    obtain rfl : l = [] := List.length_eq_zero_iff.1 (by omega)
    rw [restL_nil]; simp
  | succ n ih =>
    intro l hl
    by_cases h : l = []
    · subst h; rw [restL_nil]; simp
    · have h0 : 0 < l.length := List.length_pos_iff.2 h
      rw [restL_cons h, List.length_append, lineL_len]
      have := ih (l.drop 45) (by simp; omega)
      simp at this ⊢
      omega

/-- The first line. -/
def headL (m : Nat) (name : List UInt8) : List UInt8 := [98, 101, 103, 105, 110, 32] ++ (octL m).tail ++ [32] ++ name ++ [10]

/-- May a file be named so? -/
def nameB (l : List UInt8) : Bool := rightB l && !l.contains 10

set_option maxHeartbeats 800000 in
theorem encode_any (m : Nat) (name s : ByteArray) (w : World) (hm : m ≤ 4095) (hn : nameB (L name) = true) (hs : s.size ≤ 3000) :
    Calls Try.prog 9 #[.int .i64 m, .string name, .string s] w fun e w' => e = .returned (.tuple #[.string (S (headL m (L name) ++ restL (L s))), .int .i64 0]) ∧ Below w.heap.size w w' := by
  have hn' := hn
  simp only [nameB, Bool.and_eq_true, Bool.not_eq_true'] at hn'
  have hr := hn'.1
  have h10 := hn'.2
  have hnl : name.size ≤ 4095 := by
    have := hr
    simp only [rightB, Bool.and_eq_true, decide_eq_true_eq] at this
    exact this.1.2
  have HR := Lib.hid hr
  have H10 := Lib.hid h10
  clear hn hn' hr h10
  go_enter Try.func9, Try.ntmps9
  go_wp2_with fail
  refine (modeRight_any m _ true (by simp; omega)).mono ?_
  rintro e w' ⟨rfl, rfl⟩
  go_wp2_with fail
  refine (right_any name _ (by unfold maxLen; omega)).mono ?_
  rw [HR.out]
  rintro e w' ⟨rfl, rfl⟩
  go_wp2_with fail
  refine (indexByte_any name 10 false _ H10.out).mono ?_
  rintro e w' ⟨⟨n, rfl, hn⟩, rfl⟩
  have hn0 : ¬ 0 ≤ n := by simpa using hn
  clear hn
  go_wp2_with fail
  refine (octal_any m _ hm).mono ?_
  rintro e w1 ⟨rfl, hb1⟩
  obtain ⟨q, hq⟩ : ∃ q, q = S (octL m) := ⟨_, rfl⟩
  have hq4 : q.size = 4 := by rw [hq]; rfl
  rw [← hq]
  have HQ := Lib.hid hq
  clear hq
  have hbd0 := (Bld.fresh w).below hb1
  have hbw0 := ((Below.refl w.heap.size w).alloc (Nat.le_refl _) (.cells #[.pointer none, .slice none 0 0] 49)).trans (hb1.mono (by simp))
  have hb1s := hbw0.size
  clear hb1
  go_wp2_with fail
  refine (write_any w.heap.size w.heap.size [] _ _ hbd0 (by simp; omega) hb1s).mono ?_
  rintro e w2 ⟨rfl, hbd, hbw⟩
  have hacc : [] ++ L (⟨#[98, 101, 103, 105, 110, 32]⟩ ++ q.extract 1 4 ++ ⟨#[32]⟩ ++ name ++ ⟨#[10]⟩) = headL m (L name) := by
    simp only [L_append, L_extract, HQ.out, L_S, headL, L_mk, List.nil_append]
    rfl
  rw [hacc] at hbd
  have hbw2 := hbw0.trans hbw
  have hhl : (headL m (L name)).length ≤ 5000 := by
    have : (L name).length = name.size := rfl
    simp [headL, octL]; omega
  clear hbw hbd0 hacc hbw0 hb1s
  go_wp2_with fail
  go_loopw [2] (fun v wr => ∃ (t : ByteArray) (acc : List UInt8), v = .string t ∧ t.size ≤ s.size ∧ Bld wr w.heap.size w.heap.size acc ∧ acc ++ restL (L t) = headL m (L name) ++ restL (L s) ∧ Below w.heap.size w wr) (fun v _ => match v with | .string t => t.size | _ => 0)
  case atStart => exact ⟨s, _, rfl, Nat.le_refl _, hbd, rfl, hbw2⟩
  case round =>
    obtain ⟨t, acc, rfl, hts, hbt, heq, hbr⟩ := hrel
    have hbs := hbr.size
    have hal : acc.length ≤ 30000 := by
      have h1 := congrArg List.length heq
      have h2 := restL_len (L s).length (L s) (Nat.le_refl _)
      have h3 : (L s).length = s.size := rfl
      simp only [List.length_append] at h1
      omega
    have HE := Lib.hid heq
    clear heq
    by_cases h0 : L t = []
    · have e0 : t.toList.isEmpty = true := by rw [isEmpty_L, h0]; rfl
      have H0 := Lib.hid h0
      clear h0
      go_wp2_with fail
      refine (line_any _ _ (by simp)).mono ?_
      rintro e w3 ⟨rfl, hb3⟩
      obtain ⟨r, hr⟩ : ∃ r, r = S (lineL (L ⟨#[]⟩)) := ⟨_, rfl⟩
      rw [← hr]
      have hrs : r.size = 2 := by rw [hr]; rfl
      have HRR := Lib.hid hr
      clear hr
      go_wp2_with fail
      refine (write_any w.heap.size w.heap.size acc _ _ (hbt.below hb3) (by simp; omega) (by have := hb3.size; omega)).mono ?_
      rintro e w4 ⟨rfl, hbd4, hb4⟩
      have hbw4 := (hbr.trans (hb3.mono hbs)).trans hb4
      have hbw4s := hbw4.size
      go_wp2_with fail
      refine (Try.Builder_String_any w.heap.size w.heap.size _ _ hbd4 hbw4s).mono ?_
      rintro e w5 ⟨rfl, hb5⟩
      have hfin : (⟨(acc ++ L (r ++ ⟨#[101, 110, 100, 10]⟩)).toArray⟩ : ByteArray) = S (headL m (L name) ++ restL (L s)) := by
        rw [← HE.out, H0.out, restL_nil, L_append, HRR.out]; rfl
      have HFI := Lib.hid hfin
      clear hfin
      go_wp2_with fail
      rw [HFI.out]
      go_ret2
      exact ⟨rfl, hbw4.trans hb5⟩
    · have e0 : t.toList.isEmpty = false := by rw [isEmpty_L]; simpa using h0
      obtain ⟨k, hk⟩ : ∃ k : Nat, k = min t.size 45 := ⟨_, rfl⟩
      have hmin : min (t.size : Int) 45 = (k : Int) := by omega
      have hk1 : k ≤ t.size := by omega
      have hk2 : k ≤ 45 := by omega
      have ht0 : 0 < t.size := List.length_pos_iff.2 h0
      have hk3 : 0 < k := by omega
      have HK := Lib.hid hk
      have H0 := Lib.hid h0
      clear hk h0
      go_wp2_with fail
      refine (line_any _ _ (by simp; omega)).mono ?_
      rintro e w3 ⟨rfl, hb3⟩
      obtain ⟨r, hr⟩ : ∃ r, r = S (lineL (L (t.extract 0 k))) := ⟨_, rfl⟩
      rw [← hr]
      have hrs : r.size ≤ 70 := by
        rw [hr, S_size, lineL_len]
        have : (L (t.extract 0 k)).length ≤ k := by rw [L_extract]; simp; omega
        omega
      have HRR := Lib.hid hr
      clear hr
      go_wp2_with fail
      refine (write_any w.heap.size w.heap.size acc _ _ (hbt.below hb3) (by omega) (by have := hb3.size; omega)).mono ?_
      rintro e w4 ⟨rfl, hbd4, hb4⟩
      have hbw4 := (hbr.trans (hb3.mono hbs)).trans hb4
      go_wp2_with fail
      go_roundw
      case rel =>
        refine ⟨_, _, rfl, by simp; omega, hbd4, ?_, hbw4⟩
        rw [← HE.out, restL_cons H0.out, HRR.out, L_S, L_extract, L_extract]
        have h1 : ((L t).drop 0).take (k - 0) = (L t).take 45 := by
          have h2 : (L t).length = t.size := rfl
          have := HK.out
          simp only [List.drop_zero, Nat.sub_zero]
          by_cases h3 : t.size ≤ 45
          · rw [List.take_of_length_le (by omega), List.take_of_length_le (by omega)]
          · rw [show k = 45 by omega]
        have h4 : ((L t).drop k).take (t.size - k) = (L t).drop 45 := by
          have h2 : (L t).length = t.size := rfl
          have := HK.out
          rw [List.take_of_length_le (by simp; omega)]
          by_cases h3 : t.size ≤ 45
          · rw [List.drop_of_length_le (by omega), List.drop_of_length_le (by omega)]
          · rw [show k = 45 by omega]
        rw [h1, h4, List.append_assoc]
      case measure => simp; omega
end Go.Proofs.Ytjnknckbdfgjlaa
