/-
  Show; the document's digits; whole: the walks.
-/
import Derived.Test.YtnofoenkeoabpaaDoorH13
import Derived.Deep.RegionHeld3
namespace Go.Proofs.YtnofoenkeoabpaaDoor
open Go.RowKit

def noneL : List UInt8 := [110, 111, 110, 101]
def allL : List UInt8 := [97, 108, 108]
def nallL : List UInt8 := [45, 97, 108, 108]
/-- What Show shows. -/
def ShowC (x : Nat) (R : List UInt8) : Prop := ∀ w : World, Gl w.heap.size w → Calls Tryd.prog 6 #[.float .f64 x] w fun r w' => r = .returned (.string (S R)) ∧ Below w.heap.size w w'
theorem show_none {x : Nat} (h : isn x = true) : ShowC x noneL := fun w _ => by
  have C1 := Lib.hid (isNaN_any x)
  rw [h] at C1
  clear h
  go_enter Tryd.func6, Tryd.ntmps6
  go_wp2_with fail
  refine (C1.out _).mono ?_
  rintro e w1 ⟨rfl, rfl⟩
  go_wp2_with fail
  go_ret
  exact ⟨rfl, Below.refl _ _⟩
theorem show_all {x : Nat} (h : isn x = false) (h2 : infB x = true) : ShowC x allL := fun w _ => by
  have C1 := Lib.hid (isNaN_any x)
  have C2 := Lib.hid (isInf_any x)
  rw [h] at C1
  rw [h2] at C2
  clear h h2
  go_enter Tryd.func6, Tryd.ntmps6
  go_wp2_with fail
  refine (C1.out _).mono ?_
  rintro e w1 ⟨rfl, rfl⟩
  go_wp2_with fail
  refine (C2.out _).mono ?_
  rintro e w2 ⟨rfl, rfl⟩
  go_wp2_with fail
  go_ret
  exact ⟨rfl, Below.refl _ _⟩
theorem show_nall {x : Nat} (hx : x < 18446744073709551616) (h : isn x = false) (h2 : infB x = false) (h3 : infB (negN x) = true) : ShowC x nallL := fun w _ => by
  have C1 := Lib.hid (isNaN_any x)
  have C2 := Lib.hid (isInf_any x)
  have C3 := Lib.hid (isInfM_any x hx)
  rw [h] at C1
  rw [h2] at C2
  rw [h3] at C3
  clear h h2 h3 hx
  go_enter Tryd.func6, Tryd.ntmps6
  go_wp2_with fail
  refine (C1.out _).mono ?_
  rintro e w1 ⟨rfl, rfl⟩
  go_wp2_with fail
  refine (C2.out _).mono ?_
  rintro e w2 ⟨rfl, rfl⟩
  go_wp2_with fail
  refine (C3.out _).mono ?_
  rintro e w3 ⟨rfl, rfl⟩
  go_wp2_with fail
  go_ret
  exact ⟨rfl, Below.refl _ _⟩
theorem show_fin {x : Nat} {R : List UInt8} (hx : x < 18446744073709551616) (h : isn x = false) (h2 : infB x = false) (h3 : infB (negN x) = false) (hF : FtoaC x R) : ShowC x R := fun w hG => by
  have C1 := Lib.hid (isNaN_any x)
  have C2 := Lib.hid (isInf_any x)
  have C3 := Lib.hid (isInfM_any x hx)
  have C4 := Lib.hid (ff_any x R hF w hG)
  rw [h] at C1
  rw [h2] at C2
  rw [h3] at C3
  clear h h2 h3 hx hF hG
  go_enter Tryd.func6, Tryd.ntmps6
  go_wp2_with fail
  refine (C1.out _).mono ?_
  rintro e w1 ⟨rfl, rfl⟩
  go_wp2_with fail
  refine (C2.out _).mono ?_
  rintro e w2 ⟨rfl, rfl⟩
  go_wp2_with fail
  refine (C3.out _).mono ?_
  rintro e w3 ⟨rfl, rfl⟩
  go_wp2_with fail
  refine C4.out.mono ?_
  rintro e w4 ⟨rfl, hb⟩
  have HB := Lib.hid hb
  clear hb
  go_wp2_with fail
  go_ret
  exact ⟨rfl, HB.out⟩

theorem dec_small {m : Nat} (h : m < 10) : Lib.decDigits m = [UInt8.ofNat (48 + m)] := Lib.decDigits_one h
theorem dec_big {m : Nat} (h : ¬ m < 10) : Lib.decDigits m = Lib.decDigits (m / 10) ++ [UInt8.ofNat (48 + m % 10)] := by rw [Lib.decDigits, dif_neg h]
theorem dec_len20 {u : Nat} (hu : u < 18446744073709551616) : (Lib.decDigits u).length ≤ 20 := by rw [Lib.decDigits_length]; exact Lib.nDigits_le20 u hu

set_option maxHeartbeats 800000 in
set_option maxRecDepth 100000 in
theorem refDigits_any (u : Nat) (hu : u < 18446744073709551616) (w : World) :
    Calls Tryd.prog 13 #[.int .u64 u] w fun e w' => e = .returned (.string (S (Lib.decDigits u))) ∧ Below w.heap.size w w' := by
  have HD := Lib.hid (dec_len20 hu)
  have HU := Lib.hid hu
  clear hu
  go_enter Tryd.func13, Tryd.ntmps13
  go_wp2_with fail
  go_loopw [0, 3] (fun n o wr => ∃ (m : Nat) (t : ByteArray), m ≤ u ∧ n = .int .u64 m ∧ o = .string t ∧ Lib.decDigits u = Lib.decDigits m ++ L t ∧ Below w.heap.size w wr) (fun n _ _ => (RowKit.intOf n).toNat)
  case atStart => exact ⟨u, ⟨#[]⟩, Nat.le_refl _, rfl, rfl, by rw [show L ⟨#[]⟩ = [] from rfl, List.append_nil], Below.refl _ _⟩
  case round =>
    obtain ⟨m, t, hmu, rfl, rfl, hd, hbw⟩ := hrel
    have hbs := hbw.size
    have hts : t.size ≤ 20 := by
      have h1 := HD.out
      rw [hd, List.length_append, L_size] at h1
      omega
    by_cases hm : 10 ≤ m
    · rw [dec_big (m := m) (by omega)] at hd
      have HD2 := Lib.hid hd
      have hw : IntKind.u64.wrap ((m : Int) / 10) = ((m / 10 : Nat) : Int) := by
        have := HU.out
        rw [IntKind.wrap_u64]; omega
      have HW := Lib.hid hw
      have HM := Lib.hid hmu
      clear hd hw hmu
      go_wp2_with fail
      go_roundw
      case rel =>
        refine ⟨m / 10, _, by have := HM.out; omega, congrArg (Value.int .u64) HW.out, rfl, ?_, hbw.trans ((Below.alloc (Below.refl _ _) (Nat.le_refl _) _).mono hbs)⟩
        rw [HD2.out, L_append, List.append_assoc]
        simp
      case measure =>
        rw [HW.out]
        simp [RowKit.intOf]; omega
    · rw [dec_small (m := m) (by omega)] at hd
      have HD2 := Lib.hid hd
      clear hd
      go_wp2_with fail
      go_ret
      refine ⟨ret_string ?_, hbw.trans ((Below.alloc (Below.refl _ _) (Nat.le_refl _) _).mono hbs)⟩
      apply L_inj
      rw [L_S, HD2.out, L_append]
      simp


theorem lt_alloc (W : World) (o : Obj) : W.heap.size < (W.alloc o).heap.size := by simp
/-- A number of thousandths, as it is shown. -/
def wholeL (d : Nat) (neg : Bool) : List UInt8 := (if neg then [45] else []) ++ (Lib.decDigits (d / 1000) ++ 46 :: last3 d)
set_option maxHeartbeats 1600000 in
set_option maxRecDepth 100000 in
theorem whole_any (d : Nat) (neg : Bool) (h : d ≤ 134217728000) (w : World) :
    Calls Tryd.prog 7 #[.int .i64 (d : Int), .bool neg] w fun r w' => r = .returned (.string (S (wholeL d neg))) ∧ Below w.heap.size w w' := by
  have w1 : IntKind.i64.wrap ((d : Int) / 1000) = ((d / 1000 : Nat) : Int) := (IntWalk.i64_in _ ⟨by omega, by omega⟩).trans (by omega)
  have w2 : IntKind.i64.wrap ((d : Int) / 100) = ((d / 100 : Nat) : Int) := (IntWalk.i64_in _ ⟨by omega, by omega⟩).trans (by omega)
  have w3 : IntKind.i64.wrap ((d : Int) / 10) = ((d / 10 : Nat) : Int) := (IntWalk.i64_in _ ⟨by omega, by omega⟩).trans (by omega)
  have w4 : IntKind.u64.wrap ((d / 1000 : Nat) : Int) = ((d / 1000 : Nat) : Int) := by rw [IntKind.wrap_u64]; omega
  have C1 : Hid (∀ x W, x = IntKind.u64.wrap (IntKind.i64.wrap ((d : Int) / 1000)) → Calls Tryd.prog 13 #[.int .u64 x] W fun e w' => e = .returned (.string (S (Lib.decDigits (d / 1000)))) ∧ Below W.heap.size W w') := Lib.hid fun x W hx => by
    rw [w1, w4] at hx
    subst hx
    exact refDigits_any (d / 1000) (by omega) W
  have m1 : ∀ x y : Nat, x % 10 = y → IntKind.u8.wrap (IntKind.i64.wrap (48 + ((x : Nat) : Int).tmod 10)) = ((48 + y : Nat) : Int) := fun x y h => by
    rw [Int.tmod_eq_emod_of_nonneg (by omega), IntWalk.i64_in _ ⟨by omega, by omega⟩]
    show (48 + (x : Int) % 10) % 256 = _
    omega
  have v1 : IntKind.u8.wrap (IntKind.i64.wrap (48 + (IntKind.i64.wrap ((d : Int) / 100)).tmod 10)) = ((48 + d / 100 % 10 : Nat) : Int) := by rw [w2]; exact m1 _ _ rfl
  have v2 : IntKind.u8.wrap (IntKind.i64.wrap (48 + (IntKind.i64.wrap ((d : Int) / 10)).tmod 10)) = ((48 + d / 10 % 10 : Nat) : Int) := by rw [w3]; exact m1 _ _ rfl
  have v3 : IntKind.u8.wrap (IntKind.i64.wrap (48 + ((d : Int)).tmod 10)) = ((48 + d % 10 : Nat) : Int) := m1 _ _ rfl
  have HR : Hid (wholeL d neg = (if neg then [45] else []) ++ (Lib.decDigits (d / 1000) ++ 46 :: [UInt8.ofNat (48 + d / 100 % 10), UInt8.ofNat (48 + d / 10 % 10), UInt8.ofNat (48 + d % 10)])) := Lib.hid rfl
  have hl : (S (Lib.decDigits (d / 1000))).size ≤ 20 := by rw [S_size]; exact dec_len20 (by omega)
  have c1 : ∀ W, (Op.stringOp .add (S (Lib.decDigits (d / 1000))) ⟨#[46]⟩).run Tryd.prog W = .ok (.string (S (Lib.decDigits (d / 1000)) ++ ⟨#[46]⟩)) W := fun W => run_string_add_sum W _ _ (by simp; omega)
  have c2 : ¬ (9223372036854775807 < (S (Lib.decDigits (d / 1000))).size + 1 + 3) := by omega
  have HV1 := Lib.hid v1
  have HV2 := Lib.hid v2
  have HV3 := Lib.hid v3
  clear w1 w2 w3 w4 m1 v1 v2 v3
  go_enter Tryd.func7, Tryd.ntmps7
  go_wp2_with fail
  go_region_law (go_simp; go_at_call 13; (with_reducible refine (C1.out _ _ rfl).mono ?_); rintro e w1 ⟨rfl, hb1⟩; have HB1 := Lib.hid hb1; (try (have d0 := hb1.cell (p := ⟨w.heap.size, 0, none⟩) (lt_alloc w.drew _); have d1 := hb1.cell (p := ⟨w.heap.size, 1, none⟩) (lt_alloc w.drew _); have d2 := hb1.cell (p := ⟨w.heap.size, 2, none⟩) (lt_alloc w.drew _); simp at d0 d1 d2)); clear hb1)
  all_goals cases neg
  all_goals (go_wp2_with fail; go_ret; refine ⟨ret_string ?_, by first | exact ((Below.refl w.heap.size w).drew.trans HB1.out) | exact ((Below.refl w.heap.size w).drew.trans HB1.out).alloc (HB1.out.size) _ | exact ((Below.refl w.heap.size w).drew.alloc (Nat.le_refl _) _).trans (HB1.out.mono (by simp))⟩; rw [HR.out]; apply L_inj; simp [L_append, L_S])
end Go.Proofs.YtnofoenkeoabpaaDoor
