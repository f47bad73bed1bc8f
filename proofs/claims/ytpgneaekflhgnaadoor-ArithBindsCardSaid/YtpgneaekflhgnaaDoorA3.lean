/-
  The walks of wrong, compare, divide, do.
-/
import Derived.Test.YtpgneaekflhgnaaDoorA1
namespace Go.Proofs.YtpgneaekflhgnaaDoor
open Go.RowKit

@[go_sem] theorem bits_and_63' (x : Int) : bits BinOp.and .i64 x 63 = x % 64 := bits_and_mask .i64 6 (by decide) x
theorem sB0 : S (opB 0) = ⟨#[124, 124]⟩ := rfl
theorem sB1 : S (opB 1) = ⟨#[38, 38]⟩ := rfl
theorem sB2 : S (opB 2) = ⟨#[124]⟩ := rfl
theorem sB3 : S (opB 3) = ⟨#[94]⟩ := rfl
theorem sB4 : S (opB 4) = ⟨#[38]⟩ := rfl
theorem sB5 : S (opB 5) = ⟨#[61, 61]⟩ := rfl
theorem sB6 : S (opB 6) = ⟨#[33, 61]⟩ := rfl
theorem sB7 : S (opB 7) = ⟨#[60, 61]⟩ := rfl
theorem sB8 : S (opB 8) = ⟨#[62, 61]⟩ := rfl
theorem sB9 : S (opB 9) = ⟨#[60]⟩ := rfl
theorem sB10 : S (opB 10) = ⟨#[62]⟩ := rfl
theorem sB11 : S (opB 11) = ⟨#[60, 60]⟩ := rfl
theorem sB12 : S (opB 12) = ⟨#[62, 62]⟩ := rfl
theorem sB13 : S (opB 13) = ⟨#[43]⟩ := rfl
theorem sB14 : S (opB 14) = ⟨#[45]⟩ := rfl
theorem sB15 : S (opB 15) = ⟨#[42]⟩ := rfl
theorem sB16 : S (opB 16) = ⟨#[47]⟩ := rfl
theorem sB17 : S (opB 17) = ⟨#[37]⟩ := rfl
def errB (e : Int) : List PanicEntry := [{ v := .iface 27 (.int .i64 e), recovered := false }]
theorem wrong_any (p : Value) (n : Int) (w : World) : Calls Tryd.prog 19 #[p, .int .i64 n] w fun e w' => e = .panicked (errB n) ∧ w = w' := by
  go_enter Tryd.func19, Tryd.ntmps19
  go_wp2
  exact ⟨rfl, rfl, rfl⟩
/-- Two numbers joined by a sign, but || and &&; none: an error. -/
def apO (o : Nat) (a b : Int) : Option Int :=
  if o = 2 then some (bits .or .i64 a b)
  else if o = 3 then some (bits .xor .i64 a b)
  else if o = 4 then some (bits .and .i64 a b)
  else if o = 5 then some (truI (a == b))
  else if o = 6 then some (truI (a != b))
  else if o = 7 then some (truI (decide (a ≤ b)))
  else if o = 8 then some (truI (decide (b ≤ a)))
  else if o = 9 then some (truI (decide (a < b)))
  else if o = 10 then some (truI (decide (b < a)))
  else if o = 11 then some (wrap64 (a * 2 ^ (b % 64).toNat))
  else if o = 12 then some (a / 2 ^ (b % 64).toNat)
  else if o = 13 then some (wrap64 (a + b))
  else if o = 14 then some (wrap64 (a - b))
  else if o = 15 then some (wrap64 (a * b))
  else if b = 0 then none
  else if o = 16 then some (wrap64 (a.tdiv b))
  else some (a.tmod b)
theorem op_cases {o : Nat} (h : 2 ≤ o) (h2 : o < 18) : o = 2 ∨ o = 3 ∨ o = 4 ∨ o = 5 ∨ o = 6 ∨ o = 7 ∨ o = 8 ∨ o = 9 ∨ o = 10 ∨ o = 11 ∨ o = 12 ∨ o = 13 ∨ o = 14 ∨ o = 15 ∨ o = 16 ∨ o = 17 := by omega
section
variable {w : World} {g : Nat} {s : ByteArray} {p : Nat} {lf : Int} {vv : Value} {q : Int}
set_option maxHeartbeats 1000000 in
theorem compare_any {o : Nat} (h1 : 5 ≤ o) (h2 : o ≤ 10) (a b : Int) (w : World) : Calls Tryd.prog 59 #[.string (S (opB o)), .int .i64 a, .int .i64 b] w fun e w' => (∃ r, e = .returned (.bool r) ∧ apO o a b = some (truI r)) ∧ w = w' := by
  obtain rfl | rfl | rfl | rfl | rfl | rfl : o = 5 ∨ o = 6 ∨ o = 7 ∨ o = 8 ∨ o = 9 ∨ o = 10 := by omega
  all_goals
    clear h1 h2
    simp only [sB5, sB6, sB7, sB8, sB9, sB10]
    go_enter Tryd.func59, Tryd.ntmps59
    go_wp2
    go_ret
    exact ⟨⟨_, rfl, by simp [apO]⟩, rfl⟩
set_option maxHeartbeats 1000000 in
theorem divide_any {o : Nat} (h1 : 16 ≤ o) (h2 : o < 18) (a b : Int) (k : SB w g s p lf vv q) : Calls Tryd.prog 57 #[.pointer (some ⟨g, 0, none⟩), .string (S (opB o)), .int .i64 a, .int .i64 b] w fun e w' =>
    ((q ≤ 0 ∧ apO o a b = none ∧ e = .panicked (errB 32)) ∨ ∃ v, e = .returned (.int .i64 v) ∧ (q ≤ 0 → apO o a b = some v)) ∧ w = w' := by
  have y := k.c4
  clear k
  obtain rfl | rfl : o = 16 ∨ o = 17 := by omega
  all_goals
    clear h1 h2
    simp only [sB16, sB17]
    by_cases hq : 0 < q
    · go_enter Tryd.func57, Tryd.ntmps57
      go_wp2
      go_ret
      exact ⟨.inr ⟨_, rfl, fun h => absurd hq (by omega)⟩, rfl⟩
    · have hq2 : q ≤ 0 := by omega
      by_cases hb : b = 0
      · subst hb
        go_enter Tryd.func57, Tryd.ntmps57
        go_wp2_with fail
        refine (wrong_any _ _ _).mono ?_
        rintro e w' ⟨rfl, rfl⟩
        exact ⟨rfl, .inl ⟨hq2, rfl, rfl⟩, rfl⟩
      · have HB := Lib.hid hb
        go_enter Tryd.func57, Tryd.ntmps57
        go_wp2
        go_ret
        exact ⟨.inr ⟨_, rfl, by simp [apO, HB.out]⟩, rfl⟩
set_option maxHeartbeats 2000000 in
theorem do_any {o : Nat} (h1 : 2 ≤ o) (h2 : o < 18) (a b : Int) (k : SB w g s p lf vv q) : Calls Tryd.prog 42 #[.pointer (some ⟨g, 0, none⟩), .string (S (opB o)), .int .i64 a, .int .i64 b] w fun e w' =>
    ((q ≤ 0 ∧ apO o a b = none ∧ e = .panicked (errB 32)) ∨ ∃ v, e = .returned (.int .i64 v) ∧ (q ≤ 0 → apO o a b = some v)) ∧ w = w' := by
  have k63 : IntKind.u64.wrap (b % 64) = b % 64 := by rw [IntKind.wrap_u64]; omega
  have i0 : 0 ≤ b % 64 := by omega
  have i1 : b % 64 < 64 := by omega
  have CD : Hid (∀ {o : Nat}, 16 ≤ o → o < 18 → Calls Tryd.prog 57 #[.pointer (some ⟨g, 0, none⟩), .string (S (opB o)), .int .i64 a, .int .i64 b] w fun e w' =>
    ((q ≤ 0 ∧ apO o a b = none ∧ e = .panicked (errB 32)) ∨ ∃ v, e = .returned (.int .i64 v) ∧ (q ≤ 0 → apO o a b = some v)) ∧ w = w') := Lib.hid fun h1 h2 => divide_any h1 h2 a b k
  have CC : Hid (∀ {o : Nat}, 5 ≤ o → o ≤ 10 → Calls Tryd.prog 59 #[.string (S (opB o)), .int .i64 a, .int .i64 b] w fun e w' => (∃ r, e = .returned (.bool r) ∧ apO o a b = some (truI r)) ∧ w = w') := Lib.hid fun h1 h2 => compare_any h1 h2 a b w
  clear k
  by_cases hcm : 5 ≤ o ∧ o ≤ 10
  · have C1 := Lib.hid (CC.out hcm.1 hcm.2)
    obtain rfl | rfl | rfl | rfl | rfl | rfl : o = 5 ∨ o = 6 ∨ o = 7 ∨ o = 8 ∨ o = 9 ∨ o = 10 := by omega
    all_goals
      clear h1 h2 hcm CC CD
      simp only [sB5, sB6, sB7, sB8, sB9, sB10] at C1 ⊢
      go_enter Tryd.func42, Tryd.ntmps42
      go_wp2_with fail
      refine C1.out.mono ?_
      rintro e w' ⟨⟨r, rfl, hr⟩, rfl⟩
      have HR := Lib.hid hr
      clear hr
      go_wp2_with fail
      refine (truth_any _ _).mono ?_
      rintro e w' ⟨rfl, rfl⟩
      go_wp2_with fail
      go_ret
      exact ⟨.inr ⟨_, rfl, fun _ => HR.out⟩, rfl⟩
  · by_cases hdv : 16 ≤ o
    · have C1 := Lib.hid (CD.out hdv h2)
      obtain rfl | rfl : o = 16 ∨ o = 17 := by omega
      all_goals
        clear h1 h2 hcm CC CD hdv
        simp only [sB16, sB17] at C1 ⊢
        go_enter Tryd.func42, Tryd.ntmps42
        go_wp2_with fail
        refine C1.out.mono ?_
        rintro e w' ⟨⟨hq, hn, rfl⟩ | ⟨v, rfl, hv⟩, rfl⟩
        · exact ⟨rfl, .inl ⟨hq, hn, rfl⟩, rfl⟩
        · have HV := Lib.hid hv
          clear hv
          go_wp2_with fail
          go_ret
          exact ⟨.inr ⟨_, rfl, HV.out⟩, rfl⟩
    · obtain rfl | rfl | rfl | rfl | rfl | rfl | rfl | rfl : o = 2 ∨ o = 3 ∨ o = 4 ∨ o = 11 ∨ o = 12 ∨ o = 13 ∨ o = 14 ∨ o = 15 := by omega
      all_goals
        clear h1 h2 hcm CC CD hdv
        simp only [sB2, sB3, sB4, sB11, sB12, sB13, sB14, sB15]
        go_enter Tryd.func42, Tryd.ntmps42
        go_wp2
        go_ret
        exact ⟨.inr ⟨_, rfl, fun _ => rfl⟩, rfl⟩
end
end Go.Proofs.YtpgneaekflhgnaaDoor
