/-
  The walks of Bare, Special, Name: the program's, and the document's.
-/
import Derived.Test.YthfnkgofkdahfaaGreatDoorK1
import Derived.Test.YthfnkgofkdahfaaGreatDoorBytes
import Derived.Lib.IndexAny
namespace Go.Proofs.YthfnkgofkdahfaaGreatDoor
open Go.RowKit

def bareSigns : ByteArray := ⟨#[95, 46, 47, 44, 43, 45, 58, 64, 42, 63, 91, 93, 33, 94, 61, 126, 37]⟩
def specSigns : ByteArray := ⟨#[64, 42, 35, 63, 45, 36, 33]⟩
def bareB (c : UInt8) : Bool := lettB c || digB c || hasB (L bareSigns) c

/-- A special sign. -/
def specB (l : List UInt8) : Bool := decide (l.length = 1) && hasB (L specSigns) (l.getD 0 0)
theorem rspecial_any (s : ByteArray) (w : World) : Calls Tryz.prog 31 #[.string s] w fun e w' => e = .returned (.bool (specB (L s))) ∧ w = w' := by
  by_cases h : s.size = 1
  · have i0 := run_idx (P := Tryz.prog) (k := .i64) Tryz.underlying9 s (0 : Int) 0 rfl (by omega)
    have CI : Hid (∀ W, Calls Tryz.prog 47 #[.string specSigns, .int .u8 ((((L s).getD 0 0).toNat : Nat) : Int)] W fun e w' => e = .returned (.bool (hasB (L specSigns) ((L s).getD 0 0))) ∧ W = w') := Lib.hid fun W => (In_any specSigns _ W (by decide)).mono fun e w' h => ⟨h.1, h.2.symm⟩
    obtain ⟨c, hc⟩ : ∃ c, c = (L s).getD 0 0 := ⟨_, rfl⟩
    have HR : Hid (specB (L s) = hasB (L specSigns) c) := Lib.hid (by rw [specB, ← hc, decide_eq_true (show (L s).length = 1 from h), Bool.true_and])
    rw [← hc] at i0 CI
    have h1 : ((s.size : Int) == 1) = true := by rw [h]; rfl
    obtain ⟨r, hr⟩ : ∃ r, r = hasB (L specSigns) c := ⟨_, rfl⟩
    rw [← hr] at CI HR
    unfold specSigns at CI
    clear hc h hr
    go_enter Tryz.func31, Tryz.ntmps31
    go_wp2_with fail
    refine (CI.out _).mono ?_
    rintro e w1 ⟨rfl, rfl⟩
    go_wp2
    go_ret
    exact ⟨ret_bool HR.out.symm, rfl⟩
  · have h1 : ((s.size : Int) == 1) = false := by rw [beq_eq_false_iff_ne]; omega
    have HR : Hid (specB (L s) = false) := Lib.hid (by rw [specB, decide_eq_false (show ¬ (L s).length = 1 from h), Bool.false_and])
    clear h
    go_enter Tryz.func31, Tryz.ntmps31
    go_wp2
    go_ret
    exact ⟨ret_bool HR.out.symm, rfl⟩
end Go.Proofs.YthfnkgofkdahfaaGreatDoor
