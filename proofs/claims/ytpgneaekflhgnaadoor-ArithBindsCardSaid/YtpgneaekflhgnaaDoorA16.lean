/-
  The walk of Eval.
-/
import Derived.Test.YtpgneaekflhgnaaDoorA15
namespace Go.Proofs.YtpgneaekflhgnaaDoor
open Go.RowKit

set_option maxRecDepth 100000 in
theorem catch_pan (a b : Nat) (n z : Int) (Z : Int) (older : List PanicEntry) (w : World) (ha : w.cell? ⟨a, 0, none⟩ = some (.int .i64 n)) (hb : w.cell? ⟨b, 0, none⟩ = some (.int .i64 z)) (hfa : w.frozen? ⟨a, 0, none⟩ = false) (hfb : w.frozen? ⟨b, 0, none⟩ = false) (hab : b ≠ a) :
    CallsD Tryd.prog 16 #[.pointer (some ⟨a, 0, none⟩), .pointer (some ⟨b, 0, none⟩)] (.panicking ({ v := .iface 27 (.int .i64 Z), recovered := false } :: older)) w fun e u' w' =>
      e = .returned (.tuple #[]) ∧ u' = .panicking ({ v := .iface 27 (.int .i64 Z), recovered := true } :: older) ∧ w' = (w.setCell ⟨a, 0, none⟩ (.int .i64 0)).setCell ⟨b, 0, none⟩ (.int .i64 Z) := by
  have hta : ∀ W, (Instr.typeAssert (.iface 27 (.int .i64 Z)) 20 27 true).run Tryd.prog W = .ok (.tuple #[.int .i64 Z, .bool true]) W := fun W => by kernel_rfl
  refine callsD_of_wpS Tryd.func16 rfl fun c₀ cs hu => ?_
  apply wpS_seq
  apply wpS_region
  simp [wpOpsS, go_sem, recoverD, hu, Tryd.ntmps16, Exit.thenS]
  refine wpS_of_wp ?_
  rw [show (#[Value.pointer (some ⟨a, 0, none⟩), Value.pointer (some ⟨b, 0, none⟩)] ++ (Array.replicate 10 undef).setIfInBounds 3 (Value.iface 27 (Value.int IntKind.i64 Z))) = #[Value.pointer (some ⟨a, 0, none⟩), Value.pointer (some ⟨b, 0, none⟩), undef, undef, undef, Value.iface 27 (Value.int IntKind.i64 Z), undef, undef, undef, undef, undef, undef] from rfl]
  go_wp2_with fail
  exact ⟨rfl, _, rfl, _, results_none rfl _ _ _, rfl, rfl, rfl⟩
theorem catch_ret (a b : Nat) (w : World) :
    CallsD Tryd.prog 16 #[.pointer (some ⟨a, 0, none⟩), .pointer (some ⟨b, 0, none⟩)] .returning w fun e u' w' => e = .returned (.tuple #[]) ∧ u' = .returning ∧ w' = w := by
  refine callsD_of_wpS Tryd.func16 rfl fun c₀ cs hu => ?_
  apply wpS_seq
  apply wpS_region
  simp [wpOpsS, go_sem, recoverD, hu, Tryd.ntmps16, Exit.thenS]
  refine wpS_of_wp ?_
  rw [show (#[Value.pointer (some ⟨a, 0, none⟩), Value.pointer (some ⟨b, 0, none⟩)] ++ (Array.replicate 10 undef).setIfInBounds 3 Value.nilIface) = #[Value.pointer (some ⟨a, 0, none⟩), Value.pointer (some ⟨b, 0, none⟩), undef, undef, undef, Value.nilIface, undef, undef, undef, undef, undef, undef] from rfl]
  go_wp2_with fail
  cases c₀
  simp_all [bodyPostS, results, Tryd.results16]
set_option maxHeartbeats 1000000 in
set_option maxRecDepth 100000 in
theorem eval_of (s : ByteArray) (T : TypeId) (pv : Value) (w : World) {rest : List UInt8} (hs : s.size ≤ 1000000) (hsk : skipB (L s) = rest) (hne : rest ≠ []) (vb : Nat) (hvb : vb < w.heap.size ∨ vb = w.heap.size + 1 + 1) (R : Int → World → Prop) (RZ : Prop) (Z : Int)
    (hR : ∀ v W p u, (p.block = w.heap.size ∨ p.block = w.heap.size + 1) → R v W → R v (W.setCell p u))
    (CA : ∀ W, SR W (w.heap.size + 1 + 1) s rest 200 (.iface T pv) 0 → Below w.heap.size w W → Calls Tryd.prog 18 #[.pointer (some ⟨w.heap.size + 1 + 1, 0, none⟩)] W fun e w' => ((∃ v : Int, e = .returned (.int .i64 v) ∧ SR w' (w.heap.size + 1 + 1) s [] 200 (.iface T pv) 0 ∧ R v w') ∨ (RZ ∧ e = .panicked (errB Z))) ∧ But (w.heap.size + 1 + 1) vb W w') :
    Calls Tryd.prog 8 #[.string s, .iface T pv] w fun e w' => ((∃ v : Int, e = .returned (.tuple #[.int .i64 v, .int .i64 0]) ∧ R v w') ∨ (RZ ∧ e = .returned (.tuple #[.int .i64 0, .int .i64 Z]))) ∧ But (w.heap.size + 1 + 1) vb w w' := by
  have hmf : ∀ (fn : Fn) (first cap : Array Value) (w : World), (Instr.makeFunc fn first cap).run Tryd.prog w = .ok (.func fn first cap) w := fun _ _ _ _ => rfl
  have HCA := Lib.hid CA
  have HR := Lib.hid hR
  have HK := Lib.hid (And.intro hsk hne)
  have HS := Lib.hid hs
  have HVB := Lib.hid hvb
  clear CA hR hsk hne hs hvb
  go_enter_defers Tryd.func8, Tryd.ntmps8
  go_wp2_with fail
  obtain ⟨W0, hW0⟩ : ∃ W0, W0 = ((w.alloc (.cells #[.int .i64 0] 2)).alloc (.cells #[.int .i64 0] 27)).alloc (.cells #[.string s, .int .i64 0, .int .i64 200, .iface T pv, .int .i64 0] 54) := ⟨_, rfl⟩
  have k0 : SB W0 (w.heap.size + 1 + 1) s 0 200 (.iface T pv) 0 := by rw [hW0]; exact Blk.at (by simp)
  have ka : Blk W0 w.heap.size 2 #[.int .i64 0] := by rw [hW0]; exact ((Blk.at rfl).alloc _).alloc _
  have kb : Blk W0 (w.heap.size + 1) 27 #[.int .i64 0] := by rw [hW0]; exact (Blk.at (by simp)).alloc _
  have HB0 : Hid (Below w.heap.size w W0) := Lib.hid (by rw [hW0]; exact (((Below.refl _ _).alloc (Nat.le_refl _) _).alloc (by simp) _).alloc (by simp; omega) _)
  rw [← hW0]
  clear hW0
  refine (blanks_any k0 (Nat.zero_le _) HS.out).mono ?_
  rintro e w1 ⟨rfl, p1, hp1, hd1, hs1, hb1⟩
  rw [List.drop_zero, HK.out.1] at hd1
  have B1 : Hid (SR w1 (w.heap.size + 1 + 1) s rest 200 (.iface T pv) 0 ∧ Below w.heap.size w w1 ∧ Blk w1 w.heap.size 2 #[.int .i64 0] ∧ Blk w1 (w.heap.size + 1) 27 #[.int .i64 0]) :=
    Lib.hid ⟨⟨p1, hp1, hd1, hs1⟩, HB0.out.trans (hb1.below (by omega) (by omega) HB0.out.size), ka.but hb1 (by omega) (by omega), kb.but hb1 (by omega) (by omega)⟩
  have hne1 : ((p1 : Int) == (s.size : Int)) = false := by
    rw [beq_eq_false_iff_ne]
    intro e
    apply HK.out.2
    rw [← hd1]
    exact List.drop_eq_nil_of_le (by rw [L_size]; omega)
  have d1 := hs1.c1
  clear hs1 hb1 hd1 hp1 ka kb k0
  go_wp2_with fail
  refine (HCA.out _ B1.out.1 B1.out.2.1).mono ?_
  rintro e w2 ⟨h12, h3⟩
  have hva : w.heap.size ≠ vb := by have := HVB.out; omega
  have hvb2 : w.heap.size + 1 ≠ vb := by have := HVB.out; omega
  have B2 : Hid (Blk w2 w.heap.size 2 #[.int .i64 0] ∧ Blk w2 (w.heap.size + 1) 27 #[.int .i64 0] ∧ But (w.heap.size + 1 + 1) vb w w2) := Lib.hid ⟨B1.out.2.2.1.but h3 (by omega) hva, B1.out.2.2.2.but h3 (by omega) hvb2, (But.of_below B1.out.2.1).trans h3⟩
  have c1 : w2.cell? ⟨w.heap.size, 0, none⟩ = some (.int .i64 0) := B2.out.1.cell 0
  have c2 : w2.cell? ⟨w.heap.size + 1, 0, none⟩ = some (.int .i64 0) := B2.out.2.1.cell 0
  have f1 : w2.frozen? ⟨w.heap.size, 0, none⟩ = false := B2.out.1.free 0
  have f2 : w2.frozen? ⟨w.heap.size + 1, 0, none⟩ = false := B2.out.2.1.free 0
  have HBT : Hid (∀ p u W, (p.block = w.heap.size ∨ p.block = w.heap.size + 1) → But (w.heap.size + 1 + 1) vb w W → But (w.heap.size + 1 + 1) vb w (W.setCell p u)) := Lib.hid fun p u W hp h => h.setNew (by omega) u
  clear hva hvb2 d1 hne1
  rcases h12.symm with ⟨h1, rfl⟩ | ⟨v, rfl, h2, h2'⟩
  · have HZ := Lib.hid h1
    clear h12 h1 h3
    refine leaves_cons (f := 16) (args := #[.pointer (some ⟨w.heap.size, 0, none⟩), .pointer (some ⟨w.heap.size + 1, 0, none⟩)]) (by simp) (by simp [go_sem]) ?_
    refine (catch_pan w.heap.size (w.heap.size + 1) 0 0 Z [] w2 c1 c2 f1 f2 (by omega)).mono ?_
    rintro e u' w9 ⟨rfl, rfl, rfl⟩
    have HF : Hid (But (w.heap.size + 1 + 1) vb w ((w2.setCell ⟨w.heap.size, 0, none⟩ (.int .i64 0)).setCell ⟨w.heap.size + 1, 0, none⟩ (.int .i64 Z))) := Lib.hid (HBT.out _ _ _ (.inr rfl) (HBT.out _ _ _ (.inl rfl) B2.out.2.2))
    simp [Leaves, settle, results, Tryd.results8, go_sem, c1, c2]
    exact ⟨.inr HZ.out, HF.out⟩
  · obtain ⟨p2, hp2, hd2, hs2⟩ := h2
    have hp3 : p2 = s.size := by
      have := congrArg List.length hd2
      rw [List.length_drop, L_size, List.length_nil] at this
      omega
    subst hp3
    have d2 := hs2.c1
    have HRV := Lib.hid h2'
    clear h12 h3 h2' hs2 hd2 hp2
    go_wp2_with fail
    refine leaves_cons (f := 16) (args := #[.pointer (some ⟨w.heap.size, 0, none⟩), .pointer (some ⟨w.heap.size + 1, 0, none⟩)]) (by simp) (by simp [go_sem]) ?_
    refine (catch_ret w.heap.size (w.heap.size + 1) _).mono ?_
    rintro e u' w9 ⟨rfl, rfl, rfl⟩
    simp [Leaves, settle, results, Tryd.results8, go_sem, c1, c2]
    exact ⟨.inl (HR.out _ _ _ _ (.inr rfl) (HR.out _ _ _ _ (.inl rfl) (HR.out _ _ _ _ (.inl rfl) HRV.out))), HBT.out _ _ _ (.inr rfl) (HBT.out _ _ _ (.inl rfl) (HBT.out _ _ _ (.inl rfl) B2.out.2.2))⟩
end Go.Proofs.YtpgneaekflhgnaaDoor
