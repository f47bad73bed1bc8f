/-
  The walks of Bare, Special, Name: the program's, and the document's.
-/
import Derived.Test.YthfnkgofkdahfaaDoorK1
import Derived.Test.YthfnkgofkdahfaaDoorBytes
import Derived.Lib.IndexAny
namespace Go.Proofs.YthfnkgofkdahfaaDoor
open Go.RowKit

def bareSigns : ByteArray := ⟨#[95, 46, 47, 44, 43, 45, 58, 64, 42, 63, 91, 93, 33, 94, 61, 126, 37]⟩
def specSigns : ByteArray := ⟨#[64, 42, 35, 63, 45, 36, 33]⟩
def bareB (c : UInt8) : Bool := lettB c || digB c || hasB (L bareSigns) c

/-- A special sign. -/
def specB (l : List UInt8) : Bool := decide (l.length = 1) && hasB (L specSigns) (l.getD 0 0)
end Go.Proofs.YthfnkgofkdahfaaDoor
