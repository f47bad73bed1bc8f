/-
  ParseInt of letters and digits alone, at a base whose ParseUint is known.
-/
import Derived.Test.YtpgneaekflhgnaaDoorN1
import Derived.Lib.ParseIntBMem
import Derived.Lib.AtoiErrMem
namespace Go.Proofs.YtpgneaekflhgnaaDoor
open Go.RowKit

/-- What ParseInt says of digits of a base. -/
def PiEnd (base : Nat) (l : List UInt8) (e : Ending) : Prop :=
  (∃ n : Nat, readB base l = some n ∧ e = .returned (.tuple #[.int .i64 n, .nilIface])) ∨
    (readB base l = none ∧ ∃ v y : Int, (y = 1 ∨ y = 2) ∧ e = .returned (.tuple #[.int .i64 v, .iface 85 (.int .i64 y)]))
theorem let_sign {c : UInt8} (h : letB c = true) : (((c.toNat : Nat) : Int) == 43) = false ∧ (((c.toNat : Nat) : Int) == 45) = false := by
  simp only [letB, Bool.or_eq_true, Bool.and_eq_true, decide_eq_true_eq] at h
  constructor <;> (simp only [beq_eq_false_iff_ne, ne_eq]; omega)

set_option maxHeartbeats 2000000 in
set_option maxRecDepth 100000 in
theorem pi_of (B : Nat) (t : ByteArray) (hne : t.size ≠ 0) (hmax : t.size ≤ 1000) (hlet : ∀ c ∈ L t, letB c = true) (w : World)
    (hU : Calls Tryd.prog 46 #[.string t, .int .i64 B, .int .i64 64] w fun e w' => (∃ r, e = .returned (Lib.uintTuple 85 r) ∧ PuEnd B (L t) r) ∧ Below w.heap.size w w') :
    Calls Tryd.prog 35 #[.string t, .int .i64 B, .int .i64 64] w fun e w' => PiEnd B (L t) e ∧ Below w.heap.size w w' := by
  have hemp : t.toList.isEmpty = false := by
    rw [← decide_eq_emptyBytes]
    exact decide_eq_false (fun h => hne (by rw [h]; rfl))
  have hix := fun W => run_idx (P := Tryd.prog) Tryd.underlying9 t (k := .i64) 0 0 rfl (by omega) W
  have hmem : (L t).getD 0 0 ∈ L t := by
    have : 0 < (L t).length := by rw [L_size]; omega
    simp [List.getD, List.getElem?_eq_getElem this]
  obtain ⟨h43, h45⟩ := let_sign (hlet _ hmem)
  generalize (L t).getD 0 0 = c at hix h43 h45
  have hq2 : ∀ W, (binOp .neq 66 (.iface 85 (.int .i64 2)) (.iface 85 (.int .i64 1))).run Tryd.prog W = .ok (.bool true) W := fun W => by kernel_rfl
  have hq1 : ∀ W, (binOp .neq 66 (.iface 85 (.int .i64 1)) (.iface 85 (.int .i64 1))).run Tryd.prog W = .ok (.bool false) W := fun W => by kernel_rfl
  clear hmem hlet
  have HU := Lib.hid hU
  clear hU
  go_enter Tryd.func35, Tryd.ntmps35
  go_wp2_with fail
  refine HU.out.mono ?_
  rintro e w1 ⟨⟨r, rfl, hr⟩, hb1⟩
  cases r with
  | ok n =>
    obtain ⟨r1, r2, r3⟩ := hr
    by_cases hn : n < 9223372036854775808
    · have HF : Hid (readB B (L t) = some n) := Lib.hid (by
        rw [readB_all (by intro h; exact hne (by rw [← L_size, h]; rfl)) r1 (by omega), r2])
      obtain ⟨a, ha⟩ : ∃ a : Int, a = (n : Int) := ⟨_, rfl⟩
      have i0 : 0 ≤ a := by omega
      have i1 : a < 9223372036854775808 := by omega
      have HB := Lib.hid hb1
      have HA := Lib.hid ha
      rw [show Lib.uintTuple 85 (.ok n) = .tuple #[.int .u64 a, .nilIface] by rw [ha]; rfl]
      clear ha r1 r2 r3 hn hb1
      go_wp2
      go_ret2
      exact ⟨.inl ⟨n, HF.out, by rw [← HA.out]; rfl⟩, HB.out⟩
    · have HF : Hid (readB B (L t) = none) := Lib.hid (by rw [readB, if_neg]; rintro ⟨_, _, h3⟩; omega)
      obtain ⟨a, ha⟩ : ∃ a : Int, a = (n : Int) := ⟨_, rfl⟩
      have i0 : 0 ≤ a := by omega
      have i1 : 9223372036854775808 ≤ a := by omega
      have HB := Lib.hid hb1
      rw [show Lib.uintTuple 85 (.ok n) = .tuple #[.int .u64 a, .nilIface] by rw [ha]; rfl]
      clear ha r1 r2 r3 hn hb1
      go_wp2
      go_ret2
      exact ⟨.inr ⟨HF.out, _, 1, .inl rfl, rfl⟩, HB.out⟩
  | _ =>
    have HF : Hid (readB B (L t) = none) := Lib.hid hr
    have HB := Lib.hid hb1
    clear hr hb1
    simp only [Lib.uintTuple]
    go_wp2
    go_ret2
    first | exact ⟨.inr ⟨HF.out, _, 1, .inl rfl, rfl⟩, HB.out⟩ | exact ⟨.inr ⟨HF.out, _, 2, .inr rfl, rfl⟩, HB.out⟩
end Go.Proofs.YtpgneaekflhgnaaDoor
