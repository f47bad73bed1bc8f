/-
  The document's lines of letters (Line, Rest) and how many they are (Encoded): the walks, as in the chapter of letters.
-/
import Derived.Test.YtnofoenkeoabpaaDoorOwn
import Derived.Test.YtnofoenkeoabpaaDoorE4
import Derived.Deep.QuietTactic
import Derived.BigQuiet
import Derived.Lib.Strings
namespace Go.Proofs.YtnofoenkeoabpaaDoor
open Go.RowKit

@[go_sem] theorem Tryd.convK (w : World) (b off l c : Nat) : (convert 36 9 (.slice (some ⟨b, off, none⟩) l c)).run Tryd.prog w = convK (cellBytes w b off l) w (convFb Tryd.prog w 36 9 b off l c) :=
  run_convK 36 9 5 Tryd.underlying36 Tryd.underlying5 Tryd.underlying9 w b off l c

/-- The letter of six bits. -/
def letterL (n : Nat) : UInt8 := if n = 0 then 96 else UInt8.ofNat (32 + n)

/-- Four letters of three bytes. -/
def grp (a b c : UInt8) : List UInt8 := [letterL ((a.toNat * 65536 + b.toNat * 256 + c.toNat) / 262144), letterL ((a.toNat * 65536 + b.toNat * 256 + c.toNat) / 4096 % 64), letterL ((a.toNat * 65536 + b.toNat * 256 + c.toNat) / 64 % 64), letterL ((a.toNat * 65536 + b.toNat * 256 + c.toNat) % 64)]
def grpAt (l : List UInt8) (i : Nat) : List UInt8 := grp (l.getD (3 * i) 0) (l.getD (3 * i + 1) 0) (l.getD (3 * i + 2) 0)
def bodyTo (l : List UInt8) (k : Nat) : List UInt8 := (List.range k).flatMap (grpAt l)
theorem bodyTo_len (l : List UInt8) (k : Nat) : (bodyTo l k).length = 4 * k := by
  induction k with
  | zero => rfl
  | succ k ih => rw [bodyTo, List.range_succ, List.flatMap_append, List.length_append]; rw [bodyTo] at ih; rw [ih]; simp [grpAt, grp]; omega
/-- A line. -/
def lineL (l : List UInt8) : List UInt8 := letterL l.length :: bodyTo l ((l.length + 2) / 3) ++ [10]

/-- The lines of bytes, without the first one. -/
def restL (l : List UInt8) : List UInt8 := if l = [] then lineL [] ++ [101, 110, 100, 10] else lineL (l.take 45) ++ restL (l.drop 45)
  termination_by l.length
  decreasing_by
    rename_i h
    have : 0 < l.length := List.length_pos_iff.2 h
    simp; omega
theorem restL_nil : restL [] = [96, 10, 101, 110, 100, 10] := by rw [restL, if_pos rfl]; rfl
theorem restL_cons {l : List UInt8} (h : l ≠ []) : restL l = lineL (l.take 45) ++ restL (l.drop 45) := by rw [restL, if_neg h]

theorem lineL_len (l : List UInt8) : (lineL l).length = 4 * ((l.length + 2) / 3) + 2 := by
  simp [lineL, bodyTo_len]

theorem restL_len : ∀ (n : Nat) (l : List UInt8), l.length ≤ n → (restL l).length ≤ 6 * l.length + 6 := by
  intro n
  induction n with
  | zero =>
    intro l hl
    obtain rfl : l = [] := List.length_eq_zero_iff.1 (by omega)
    rw [restL_nil]; simp
  | succ n ih =>
    intro l hl
    by_cases h : l = []
    · subst h; rw [restL_nil]; simp
    · have h0 : 0 < l.length := List.length_pos_iff.2 h
      rw [restL_cons h, List.length_append, lineL_len]
      have := ih (l.drop 45) (by simp; omega)
      simp at this ⊢
      omega

theorem getD_past (l : List UInt8) {i : Nat} (h : l.length ≤ i) : l.getD i 0 = 0 := by simp [List.getD, List.getElem?_eq_none h]

theorem cells4 (w : World) (e : TypeId) (x y z r : Int) (u v t q : UInt8) (hx : x = (u.toNat : Nat)) (hy : y = (v.toNat : Nat)) (hz : z = (t.toNat : Nat)) (hr : r = (q.toNat : Nat)) : ∀ j, j < 4 →
    (w.alloc (.cells #[.int .u8 x, .int .u8 y, .int .u8 z, .int .u8 r] e)).cell? ⟨w.heap.size, j, none⟩ = some (.int .u8 ((([u, v, t, q] : List UInt8).getD j 0).toNat : Nat)) := by
  subst hx hy hz hr
  intro j hj
  match j, hj with
  | 0, _ => simp
  | 1, _ => simp
  | 2, _ => simp
  | 3, _ => simp

/-- How long the lines are. -/
def encLen (n : Nat) : Nat := n / 45 * 62 + (if n % 45 = 0 then 0 else (n % 45 + 2) / 3 * 4 + 2) + 6
theorem restL_length : ∀ (n : Nat) (l : List UInt8), l.length ≤ n → (restL l).length = encLen l.length := by
  intro n
  induction n with
  | zero =>
    intro l hl
    obtain rfl : l = [] := List.length_eq_zero_iff.1 (by omega)
    rw [restL_nil]; rfl
  | succ n ih =>
    intro l hl
    by_cases h : l = []
    · subst h; rw [restL_nil]; rfl
    · have h0 : 0 < l.length := List.length_pos_iff.2 h
      rw [restL_cons h, List.length_append, lineL_len, ih _ (by simp; omega), List.length_take, List.length_drop, encLen, encLen]
      by_cases h45 : l.length < 45
      · rw [Nat.min_eq_right (by omega), show l.length - 45 = 0 by omega, show l.length % 45 = l.length by omega, if_pos (show 0 % 45 = 0 from rfl), if_neg (show ¬ l.length = 0 by omega), show l.length / 45 = 0 by omega]
        omega
      · rw [Nat.min_eq_left (by omega)]
        obtain ⟨d, hd⟩ : ∃ d, l.length = d + 45 := ⟨l.length - 45, by omega⟩
        rw [hd, Nat.add_sub_cancel, Nat.add_div_right _ (by omega), Nat.add_mod_right]
        split <;> omega

theorem encoded_any (n : Nat) (w : World) (h : n ≤ 100000) :
    Calls Tryd.prog 21 #[.int .i64 n] w fun e w' => e = .returned (.int .i64 (encLen n : Nat)) ∧ w = w' := by
  by_cases h0 : n % 45 = 0
  · have hv : encLen n = n / 45 * 62 + 0 + 6 := by rw [encLen, if_pos h0]
    have HV := Lib.hid hv
    clear hv
    go_enter Tryd.func21, Tryd.ntmps21
    go_wp2_with fail
    go_ret
    exact ⟨ret_int (by rw [HV.out]; omega), rfl⟩
  · have hv : encLen n = n / 45 * 62 + ((n % 45 + 2) / 3 * 4 + 2) + 6 := by rw [encLen, if_neg h0]
    have HV := Lib.hid hv
    clear hv
    go_enter Tryd.func21, Tryd.ntmps21
    go_wp2_with fail
    go_ret
    exact ⟨ret_int (by rw [HV.out]; omega), rfl⟩
end Go.Proofs.YtnofoenkeoabpaaDoor
