/-
  The walk of unless.
-/
import Derived.Test.YtpgneaekflhgnaaDoorA10
namespace Go.Proofs.YtpgneaekflhgnaaDoor
open Go.RowKit

section
variable {w W W2 : World} {xb g : Nat} {s : ByteArray} {l l' : List UInt8} {lf lf' : Int} {vv : Value} {q q' : Int}
theorem quiet_down (k : SR W g s l lf vv q) (hx : W.cell? ⟨xb, 0, none⟩ = some (.pointer (some ⟨g, 0, none⟩))) (h1 : 0 ≤ q) (h2 : q ≤ 200) (u : FrameMode) :
    CallsD Tryd.prog 64 #[.pointer (some ⟨xb, 0, none⟩)] u W fun e u' w' => u' = u ∧ (e = .returned (.tuple #[]) ∧ SR w' g s l lf vv (q - 1) ∧ But g g W w') := by
  obtain ⟨p, hp, hl, hb⟩ := k
  have y := hb.c4
  have z := hb.z4
  have hw : IntKind.i64.wrap (q - 1) = q - 1 := IntWalk.i64_in _ ⟨by omega, by omega⟩
  have HH : Hid (SR (W.setCell ⟨g, 4, none⟩ (.int .i64 (q - 1))) g s l lf vv (q - 1) ∧ But g g W (W.setCell ⟨g, 4, none⟩ (.int .i64 (q - 1)))) := Lib.hid ⟨⟨p, hp, hl, hb.put4 _⟩, (But.refl g g W).setG 4 _⟩
  clear hb hp hl
  go_enter_d Tryd.func64, Tryd.ntmps64
  go_wp2_with fail
  go_end0
  exact ⟨rfl, HH.out⟩
theorem unless_no (F : FuncId) (hF : F = 62 ∨ F = 63) (cap : Array Value) (R : Ending → World → Prop) (hC : Calls Tryd.prog F cap (w.alloc (.cells #[.pointer (some ⟨g, 0, none⟩)] 52)) R)
    (hR : ∀ e w', R e w' → (∃ v : Int, e = .returned (.int .i64 v)) ∨ ∃ c, e = .panicked c) :
    Calls Tryd.prog 45 #[.pointer (some ⟨g, 0, none⟩), .bool false, .func (.func F) #[] cap] w R := by
  have HC := Lib.hid hC
  have HR := Lib.hid hR
  clear hC hR
  rcases hF with rfl | rfl
  all_goals
    go_enter_defers Tryd.func45, Tryd.ntmps45
    go_wp2_with fail
    refine HC.out.mono ?_
    intro e w1 hr
    have HRR := Lib.hid hr
    rcases HR.out e w1 hr with ⟨v, rfl⟩ | ⟨c, rfl⟩
    · clear hr
      go_wp2_with fail
      refine ⟨_, results_tmp rfl _ _ _, ?_⟩
      exact HRR.out
    · clear hr
      exact HRR.out
theorem unless_yes (k : SR w g s l lf vv q) (h1 : 0 ≤ q) (h2 : q ≤ 100) (F : FuncId) (hF : F = 62 ∨ F = 63) (cap : Array Value)
    (hC : ∀ W, SR W g s l lf vv (q + 1) → But g g w W → Calls Tryd.prog F cap W fun e w' => (∃ v : Int, e = .returned (.int .i64 v)) ∧ SR w' g s l' lf vv (q + 1) ∧ But g g W w') :
    Calls Tryd.prog 45 #[.pointer (some ⟨g, 0, none⟩), .bool true, .func (.func F) #[] cap] w fun e w' => (∃ v : Int, e = .returned (.int .i64 v)) ∧ SR w' g s l' lf vv q ∧ But g g w w' := by
  have hmf : ∀ (fn : Fn) (first cap : Array Value) (w : World), (Instr.makeFunc fn first cap).run Tryd.prog w = .ok (.func fn first cap) w := fun _ _ _ _ => rfl
  have hw : IntKind.i64.wrap (q + 1) = q + 1 := IntWalk.i64_in _ ⟨by omega, by omega⟩
  have B1 : Hid (BX w ((w.setCell ⟨g, 4, none⟩ (.int .i64 (q + 1))).alloc (.cells #[.pointer (some ⟨g, 0, none⟩)] 52)) w.heap.size g s l lf vv (q + 1)) := Lib.hid ⟨(k.put4 _).alloc _, (Blk.at (t := 52) (cs := #[.pointer (some ⟨g, 0, none⟩)]) (by simp)).cell 0, by simp, Nat.ne_of_gt k.lt, ((But.refl g g w).setG 4 _).alloc _⟩
  have y : w.cell? ⟨g, 4, none⟩ = some (.int .i64 q) := by obtain ⟨p, _, _, hb⟩ := k; exact hb.c4
  have z : w.frozen? ⟨g, 4, none⟩ = false := by obtain ⟨p, _, _, hb⟩ := k; exact hb.z4
  have hbs := k.lt
  have hx1 := B1.out.box
  have HC := Lib.hid hC
  have HQ := Lib.hid (And.intro h1 h2)
  clear hC h1 h2 k
  rcases hF with rfl | rfl
  all_goals
    go_enter_defers Tryd.func45, Tryd.ntmps45
    go_wp2_with fail
    refine (HC.out _ B1.out.sr B1.out.but).mono ?_
    rintro e w2 ⟨⟨v, rfl⟩, hs2, hb2⟩
    have B2 := Lib.hid (B1.out.step hs2 hb2)
    have hx2 := B2.out.box
    clear hs2 hb2
    go_wp2_with fail
    have C9 := Lib.hid (quiet_down B2.out.sr hx2 (by have := HQ.out; omega) (by have := HQ.out; omega) .returning)
    refine leaves_cons (f := 64) (args := #[.pointer (some ⟨w.heap.size, 0, none⟩)]) (by simp) (by simp [go_sem]) ?_
    refine C9.out.mono ?_
    rintro e u' w9 ⟨rfl, rfl, hs9, hb9⟩
    rw [Int.add_sub_cancel] at hs9
    exact ⟨_, results_tmp rfl _ _ _, ⟨v, rfl⟩, hs9, B2.out.but.trans hb9⟩
end
end Go.Proofs.YtpgneaekflhgnaaDoor
