/-
  Walks of the functions of tag and its reference: each contract says what the call returns; no condition but the ones that stand in it.
-/
import Derived.Test.YtkeinpifbiiodaaLib
namespace Go.Proofs.Ytkeinpifbiiodaa
open Go.RowKit

@[go_sem] theorem Try.convK (w : World) (b off l c : Nat) : (convert 37 9 (.slice (some ⟨b, off, none⟩) l c)).run Try.prog w = convK (cellBytes w b off l) w (convFb Try.prog w 37 9 b off l c) :=
  run_convK 37 9 5 Try.underlying37 Try.underlying5 Try.underlying9 w b off l c

/-- The letters of a number, k of them. -/
def lets : Nat → Nat → List UInt8
  | 0, _ => []
  | k + 1, n => UInt8.ofNat (65 + n / 26 ^ k % 26) :: lets k n

theorem lets5 (n : Nat) : lets 5 n = [UInt8.ofNat (65 + n / 26 / 26 / 26 / 26 % 26), UInt8.ofNat (65 + n / 26 / 26 / 26 % 26), UInt8.ofNat (65 + n / 26 / 26 % 26), UInt8.ofNat (65 + n / 26 % 26), UInt8.ofNat (65 + n % 26)] := by
  simp [lets, Nat.div_div_eq_div_mul]

set_option maxHeartbeats 400000 in
theorem refHalf_any (s : ByteArray) (n : Nat) (w : World) (h1 : n < 11881376) (hs : s.size ≤ 1000) :
    Calls Try.prog 14 #[.string s, .int .i64 n] w fun e w' => e = .returned (.string (s ++ S (lets 5 n))) ∧ Below w.heap.size w w' := by
  go_enter Try.func14, Try.ntmps14
  go_wp2
  go_rounds 6
  go_ret
  exact ⟨ret_string (congrArg (s ++ ·) (L_inj (by simp [L_append, L_S, lets5]))), by go_grown⟩

set_option maxHeartbeats 400000 in
theorem half_any (c : Nat) (n : Nat) (w : World) (h1 : n < 11881376) :
    Calls Try.prog 22 #[.int .u8 c, .int .i64 n] w fun e w' => e = .returned (.string (S (UInt8.ofNat c :: 81 :: lets 5 n))) ∧ Below w.heap.size w w' := by
  go_enter Try.func22, Try.ntmps22
  go_wp2
  go_rounds 6
  go_ret
  exact ⟨by rw [lets5]; rfl, by go_grown⟩

def halfB (n : Nat) : List UInt8 := 66 :: 81 :: lets 5 n
def halfE (n : Nat) : List UInt8 := 69 :: 81 :: lets 5 n
def tagL (n : Nat) : List UInt8 := halfB n ++ [95, 83, 69, 65, 66, 65, 71, 95] ++ halfE n

set_option maxHeartbeats 400000 in
theorem halves_any (n : Nat) (w : World) (h1 : n < 11881376) :
    Calls Try.prog 13 #[.int .i64 n] w fun e w' => e = .returned (.tuple #[.string (S (halfB n)), .string (S (halfE n))]) ∧ Below w.heap.size w w' := by
  go_enter Try.func13, Try.ntmps13
  go_wp2_with fail
  refine (half_any 66 n _ h1).mono ?_
  rintro e w1 ⟨rfl, hb1⟩
  go_wp2_with fail
  refine (half_any 69 n _ h1).mono ?_
  rintro e w2 ⟨rfl, hb2⟩
  go_wp2_with fail
  go_ret2
  exact ⟨rfl, hb1.trans (hb2.mono hb1.size)⟩

set_option maxHeartbeats 400000 in
theorem of_any (n : Nat) (w : World) (h1 : n < 11881376) :
    Calls Try.prog 15 #[.int .i64 n] w fun e w' => e = .returned (.string (S (tagL n))) ∧ Below w.heap.size w w' := by
  have s1 : (S (halfB n)).size = 7 := by simp [S_size, halfB, lets]
  have s2 : (S (halfE n)).size = 7 := by simp [S_size, halfE, lets]
  go_enter Try.func15, Try.ntmps15
  go_wp2_with fail
  refine (halves_any n _ h1).mono ?_
  rintro e w1 ⟨rfl, hb1⟩
  go_wp2
  go_ret
  exact ⟨ret_string (by rw [tagL, ← S_append, ← S_append]; rfl), hb1⟩

set_option maxHeartbeats 400000 in
theorem refOf_any (n : Nat) (w : World) (h1 : n < 11881376) :
    Calls Try.prog 16 #[.int .i64 n] w fun e w' => e = .returned (.string (S (tagL n))) ∧ Below w.heap.size w w' := by
  have s1 : (S (halfB n)).size = 7 := by simp [S_size, halfB, lets]
  have s2 : (S (halfE n)).size = 7 := by simp [S_size, halfE, lets]
  have e1 : ⟨#[66, 81]⟩ ++ S (lets 5 n) = S (halfB n) := L_inj (by rw [L_append, L_S, L_S]; rfl)
  have e2 : ⟨#[69, 81]⟩ ++ S (lets 5 n) = S (halfE n) := L_inj (by rw [L_append, L_S, L_S]; rfl)
  have E1 := Lib.hid e1
  have E2 := Lib.hid e2
  clear e1 e2
  go_enter Try.func16, Try.ntmps16
  go_wp2_with fail
  refine (refHalf_any _ n _ h1 (by decide)).mono ?_
  rw [E1.out]
  rintro e w1 ⟨rfl, hb1⟩
  go_wp2_with fail
  refine (refHalf_any _ n _ h1 (by decide)).mono ?_
  rw [E2.out]
  rintro e w2 ⟨rfl, hb2⟩
  go_wp2
  go_ret
  exact ⟨ret_string (by rw [tagL, ← S_append, ← S_append]; rfl), hb1.trans (hb2.mono hb1.size)⟩

set_option maxHeartbeats 400000 in
theorem anchor_any (w : World) :
    Calls Try.prog 7 #[] w fun e w' => e = .returned (.bool true) ∧ Below w.heap.size w w' := by
  go_enter Try.func7, Try.ntmps7
  go_wp2_with fail
  refine (of_any 27 _ (by omega)).mono ?_
  rintro e w1 ⟨rfl, hb1⟩
  go_wp2
  go_ret
  exact ⟨ret_bool (by rw [toList_L]; rfl), hb1⟩

/-- Few texts, and short. -/
def smallB (ss : List ByteArray) : Bool := ss.all (fun s => decide (s.size ≤ 500)) && decide (ss.length ≤ 30)

set_option maxHeartbeats 400000 in
theorem small_any (a : Option Addr) (n cap : Nat) (B : Nat) (ss : List ByteArray) (w : World) (h : Elems w B a n (ss.map .string)) :
    Calls Try.prog 8 #[.slice a n cap] w fun e w' => e = .returned (.bool (smallB ss)) ∧ w = w' := by
  obtain ⟨b, off, hix, -, hc⟩ := h.open (P := Try.prog) 22 9 Try.underlying22 (by kernel_rfl)
  have hl : ss.length = n := by simpa using h.1
  have hm := h.2.1
  unfold maxLen at hm
  have HL := Lib.hid hl
  have HC := Lib.hid hc
  clear hl hc h
  go_enter Try.func8, Try.ntmps8
  go_wp2
  go_loop [7] (fun i => ∃ k : Nat, k ≤ n ∧ i = .int .i64 k ∧ ss.all (fun s => decide (s.size ≤ 500)) = (ss.drop k).all (fun s => decide (s.size ≤ 500))) (fun i => n - (intOf i).toNat)
  case atStart => exact ⟨0, Nat.zero_le _, rfl, rfl⟩
  case round =>
    obtain ⟨k, hk, rfl, hr⟩ := hrel
    have HR := Lib.hid hr
    clear hr
    by_cases hlt : k < n
    · have hk' : k < ss.length := by rw [HL.out]; exact hlt
      obtain ⟨s, hs⟩ : ∃ s, s = ss[k] := ⟨_, rfl⟩
      have hcell : w.cell? ⟨b, off + k, none⟩ = some (.string s) := by rw [HC.out k hlt, hs]; simp [hk']
      have hd := List.drop_eq_getElem_cons hk'
      rw [← hs] at hd
      have HD := Lib.hid hd
      clear hd
      clear hs hk'
      go_wp2
      · go_ret
        exact ⟨ret_bool (by rw [smallB, HR.out, HD.out]; simp; omega), rfl⟩
      · go_round
        case rel => exact ⟨k + 1, by omega, by go_num, by rw [HR.out, HD.out]; simp; omega⟩
        case measure => simp [intOf]; omega
    · go_wp2
      go_ret
      have : k = n := by omega
      exact ⟨ret_bool (by rw [smallB, HR.out, this, List.drop_of_length_le (by rw [HL.out]; exact Nat.le_refl _), HL.out]; simp; omega), rfl⟩
end Go.Proofs.Ytkeinpifbiiodaa
