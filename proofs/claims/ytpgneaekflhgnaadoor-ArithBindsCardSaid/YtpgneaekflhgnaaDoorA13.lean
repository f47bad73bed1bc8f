/-
  The walk of binary at a level.
-/
import Derived.Test.YtpgneaekflhgnaaDoorA12
namespace Go.Proofs.YtpgneaekflhgnaaDoor
open Go.RowKit

theorem op_tests : ∀ o, o < 18 → ((opB o).isEmpty = false) ∧ (2 ≤ o → (opB o == [124, 124]) = false ∧ (opB o == [38, 38]) = false) := by decide
section
variable {g : Nat} {s : ByteArray} {bl : Bool} {lf : Int} {vv : Value} {n : Nat}
/-- What lies behind a sign. -/
theorem tail_sign {o : Nat} {y : Int} {r : List Tok} : skipB ((tailS bl ((o, y) :: r)).drop (opB o).length) = Lib.decDigits y.toNat ++ tailS bl r := by
  rw [tailS, List.drop_left]
  exact skip_pad bl y.toNat _
/-- A closure of binary: it reads at the next level. -/
theorem clos_any (F : FuncId) (hF : F = 62 ∨ F = 63) (hn : n < 10) {W : World} {xb nb : Nat} {y : Int} {l : List Tok} {q : Int} (hB : BinOK g s bl lf vv (n + 1)) (hy : Num y) (hl : Row l) (h0 : 0 ≤ q) (h1 : q ≤ n + 1)
    (hx : W.cell? ⟨xb, 0, none⟩ = some (.pointer (some ⟨g, 0, none⟩))) (hb : W.cell? ⟨nb, 0, none⟩ = some (.int .i64 (n : Int))) (k : SR W g s (Lib.decDigits y.toNat ++ tailS bl l) lf vv q) :
    Calls Tryd.prog F #[.pointer (some ⟨xb, 0, none⟩), .pointer (some ⟨nb, 0, none⟩)] W (BinP g s bl (n + 1) y l lf vv q W) := by
  have C1 := Lib.hid (hB W y l q hy hl h0 (by omega) k)
  have hw : IntKind.i64.wrap ((n : Int) + 1) = ((n + 1 : Nat) : Int) := by rw [IntWalk.i64_in _ ⟨by omega, by omega⟩]; omega
  clear hB hy hl h0 h1 k
  rcases hF with rfl | rfl
  · go_enter Tryd.func62, Tryd.ntmps62
    go_wp2_with fail
    refine C1.out.mono ?_
    rintro e w1 ⟨⟨v, rfl, h2⟩ | ⟨h1, h2, rfl⟩, h3⟩
    · have HH : Hid (BinP g s bl (n + 1) y l lf vv q W (.returned (.int .i64 v)) w1) := Lib.hid ⟨.inl ⟨v, rfl, h2⟩, h3⟩
      clear h2 h3
      go_wp2_with fail
      go_ret
      exact HH.out
    · exact ⟨rfl, .inr ⟨h1, h2, rfl⟩, h3⟩
  · go_enter Tryd.func63, Tryd.ntmps63
    go_wp2_with fail
    refine C1.out.mono ?_
    rintro e w1 ⟨⟨v, rfl, h2⟩ | ⟨h1, h2, rfl⟩, h3⟩
    · have HH : Hid (BinP g s bl (n + 1) y l lf vv q W (.returned (.int .i64 v)) w1) := Lib.hid ⟨.inl ⟨v, rfl, h2⟩, h3⟩
      clear h2 h3
      go_wp2_with fail
      go_ret
      exact HH.out
    · exact ⟨rfl, .inr ⟨h1, h2, rfl⟩, h3⟩
end
end Go.Proofs.YtpgneaekflhgnaaDoor
