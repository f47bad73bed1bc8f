/-
  The walks of Bare, Special, Name: the program's, and the document's.
-/
import Derived.Test.YtpgneaekflhgnaaDoorK1
import Derived.Test.YtpgneaekflhgnaaDoorBytes
import Derived.Lib.IndexAny
namespace Go.Proofs.YtpgneaekflhgnaaDoor
open Go.RowKit

def bareSigns : ByteArray := ⟨#[95, 46, 47, 44, 43, 45, 58, 64, 42, 63, 91, 93, 33, 94, 61, 126, 37]⟩
def specSigns : ByteArray := ⟨#[64, 42, 35, 63, 45, 36, 33]⟩
def bareB (c : UInt8) : Bool := lettB c || digB c || hasB (L bareSigns) c

theorem index_any (s : ByteArray) (c : UInt8) (w : World) :
    Calls Tryd.prog 30 #[.string s, .int .u8 ((c.toNat : Nat) : Int)] w fun e w' => (∃ n : Int, e = .returned (.int .i64 n) ∧ decide (0 ≤ n) = hasB (L s) c) ∧ w = w' :=
  (Tryd.strings_IndexByte s ((c.toNat : Nat) : Int) w).mono fun e w' ⟨h1, h2⟩ => ⟨⟨_, h1, by
    have := Lib.contains_iff_indexByte (L s) c
    have hc : ((c.toNat : Nat) : Int).toNat.toUInt8 = c := by simp
    rw [hc, hasB, this]
    exact decide_eq_decide.2 Iff.rfl⟩, h2.symm⟩

/-- A special sign. -/
def specB (l : List UInt8) : Bool := decide (l.length = 1) && hasB (L specSigns) (l.getD 0 0)
end Go.Proofs.YtpgneaekflhgnaaDoor
