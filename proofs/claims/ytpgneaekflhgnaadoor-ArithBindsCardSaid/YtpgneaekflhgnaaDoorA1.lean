/-
  The sum's row in memory; the walks of truth, compare, in, wrong, letter, ast.Name of one byte.
-/
import Derived.Test.YtpgneaekflhgnaaDoorBut
import Derived.Test.YtpgneaekflhgnaaDoorR0
import Derived.Test.YtpgneaekflhgnaaDoorR2
import Derived.Test.YtpgneaekflhgnaaDoorR3
import Derived.WalkLawsBesides
import Derived.Laws.Closers25
namespace Go.Proofs.YtpgneaekflhgnaaDoor
open Go.RowKit

/-- The sum at block g: its text, where it stands, how many may be open, its variables, whether it is quiet. -/
def SB (w : World) (g : Nat) (s : ByteArray) (p : Nat) (lf : Int) (vv : Value) (q : Int) : Prop :=
  Blk w g 54 #[.string s, .int .i64 (p : Int), .int .i64 lf, vv, .int .i64 q]
section
variable {w w' : World} {g h : Nat} {s : ByteArray} {p : Nat} {lf : Int} {vv : Value} {q : Int}
theorem SB.lt (k : SB w g s p lf vv q) : g < w.heap.size := Blk.lt k
theorem SB.below (k : SB w g s p lf vv q) (hb : Below w.heap.size w w') : SB w' g s p lf vv q := Blk.below k hb k.lt
theorem SB.c0 (k : SB w g s p lf vv q) : w.cell? ⟨g, 0, none⟩ = some (.string s) := Blk.cell k 0
theorem SB.c1 (k : SB w g s p lf vv q) : w.cell? ⟨g, 1, none⟩ = some (.int .i64 (p : Int)) := Blk.cell k 1
theorem SB.c2 (k : SB w g s p lf vv q) : w.cell? ⟨g, 2, none⟩ = some (.int .i64 lf) := Blk.cell k 2
theorem SB.c3 (k : SB w g s p lf vv q) : w.cell? ⟨g, 3, none⟩ = some vv := Blk.cell k 3
theorem SB.c4 (k : SB w g s p lf vv q) : w.cell? ⟨g, 4, none⟩ = some (.int .i64 q) := Blk.cell k 4
theorem SB.z1 (k : SB w g s p lf vv q) : w.frozen? ⟨g, 1, none⟩ = false := Blk.free k 1
theorem SB.z2 (k : SB w g s p lf vv q) : w.frozen? ⟨g, 2, none⟩ = false := Blk.free k 2
theorem SB.z4 (k : SB w g s p lf vv q) : w.frozen? ⟨g, 4, none⟩ = false := Blk.free k 4
theorem SB.put1 (k : SB w g s p lf vv q) (x : Nat) : SB (w.setCell ⟨g, 1, none⟩ (.int .i64 (x : Int))) g s x lf vv q := Blk.put k 1 _
theorem SB.put2 (k : SB w g s p lf vv q) (x : Int) : SB (w.setCell ⟨g, 2, none⟩ (.int .i64 x)) g s p x vv q := Blk.put k 2 _
theorem SB.put4 (k : SB w g s p lf vv q) (x : Int) : SB (w.setCell ⟨g, 4, none⟩ (.int .i64 x)) g s p lf vv x := Blk.put k 4 _
theorem SB.alloc (k : SB w g s p lf vv q) (o : Obj) : SB (w.alloc o) g s p lf vv q := Blk.alloc k o
theorem SB.far (k : SB w g s p lf vv q) {a : Addr} (ha : g ≠ a.block) (u : Value) : SB (w.setCell a u) g s p lf vv q := Blk.far k ha u
theorem SB.drewN (k : SB w g s p lf vv q) (n : Nat) : SB (w.drewN n) g s p lf vv q := k
end

theorem truth_any (b : Bool) (w : World) : Calls Tryd.prog 58 #[.bool b] w fun e w' => e = .returned (.int .i64 (truI b)) ∧ w = w' := by
  cases b
  · go_enter Tryd.func58, Tryd.ntmps58
    go_wp2
    go_ret
    exact ⟨rfl, rfl⟩
  · go_enter Tryd.func58, Tryd.ntmps58
    go_wp2
    go_ret
    exact ⟨rfl, rfl⟩
theorem in_any {w : World} {g : Nat} {s : ByteArray} {p : Nat} {lf : Int} {vv : Value} {q : Int} (k : SB w g s p lf vv q) (h1 : 1 ≤ lf) (h2 : lf ≤ 200) :
    Calls Tryd.prog 41 #[.pointer (some ⟨g, 0, none⟩)] w fun e w' => e = .returned (.tuple #[]) ∧ SB w' g s p (lf - 1) vv q ∧ But g g w w' := by
  have y := k.c2
  have z := k.z2
  have hw : IntKind.i64.wrap (lf - 1) = lf - 1 := IntWalk.i64_in _ ⟨by omega, by omega⟩
  have HH : Hid (SB (w.setCell ⟨g, 2, none⟩ (.int .i64 (lf - 1))) g s p (lf - 1) vv q ∧ But g g w (w.setCell ⟨g, 2, none⟩ (.int .i64 (lf - 1)))) := Lib.hid ⟨k.put2 _, (But.refl g g w).setG 2 _⟩
  have hn : ¬ (lf - 1 < 0) := by omega
  clear k
  go_enter Tryd.func41, Tryd.ntmps41
  go_wp2_with fail
  go_end0
  exact ⟨rfl, HH.out⟩
theorem dec_le {a b : Nat} {r : Bool} (h : decide (a ≤ b) = r) : decide ((a : Int) ≤ (b : Int)) = r := by rw [← h]; simp
set_option maxHeartbeats 1000000 in
theorem aletter_any (c : UInt8) (w : World) : Calls Tryd.prog 26 #[.int .u8 (c.toNat : Int)] w fun e w' => e = .returned (.bool (letB c)) ∧ w = w' := by
  obtain ⟨r, hr⟩ : ∃ r, letB c = r := ⟨_, rfl⟩
  have hr2 := hr
  have HR := Lib.hid hr
  rw [letB] at hr2
  clear hr
  obtain ⟨b1, h1⟩ : ∃ b, decide (48 ≤ c.toNat) = b := ⟨_, rfl⟩
  obtain ⟨b2, h2⟩ : ∃ b, decide (c.toNat ≤ 57) = b := ⟨_, rfl⟩
  obtain ⟨b3, h3⟩ : ∃ b, decide (97 ≤ c.toNat) = b := ⟨_, rfl⟩
  obtain ⟨b4, h4⟩ : ∃ b, decide (c.toNat ≤ 122) = b := ⟨_, rfl⟩
  obtain ⟨b5, h5⟩ : ∃ b, decide (65 ≤ c.toNat) = b := ⟨_, rfl⟩
  obtain ⟨b6, h6⟩ : ∃ b, decide (c.toNat ≤ 90) = b := ⟨_, rfl⟩
  rw [h1, h2, h3, h4, h5, h6] at hr2
  have d1 : decide ((48 : Int) ≤ (c.toNat : Int)) = b1 := dec_le h1
  have d2 : decide ((c.toNat : Int) ≤ (57 : Int)) = b2 := dec_le h2
  have d3 : decide ((97 : Int) ≤ (c.toNat : Int)) = b3 := dec_le h3
  have d4 : decide ((c.toNat : Int) ≤ (122 : Int)) = b4 := dec_le h4
  have d5 : decide ((65 : Int) ≤ (c.toNat : Int)) = b5 := dec_le h5
  have d6 : decide ((c.toNat : Int) ≤ (90 : Int)) = b6 := dec_le h6
  clear h1 h2 h3 h4 h5 h6
  generalize (c.toNat : Int) = ci at d1 d2 d3 d4 d5 d6 ⊢
  cases b1 <;> cases b2 <;> cases b3 <;> cases b4 <;> cases b5 <;> cases b6 <;> simp only [Bool.and_true, Bool.and_false, Bool.or_true, Bool.or_false] at hr2 <;> subst hr2
  all_goals
    go_enter Tryd.func26, Tryd.ntmps26
    go_wp2
    go_ret
    exact ⟨by rw [HR.out]; rfl, rfl⟩
end Go.Proofs.YtpgneaekflhgnaaDoor
