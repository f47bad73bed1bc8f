/-
  The walk of name: where a number comes; where x comes, and = behind it.
-/
import Derived.Test.YtpgneaekflhgnaaDoorA2
import Derived.Test.YtpgneaekflhgnaaDoorK4
namespace Go.Proofs.YtpgneaekflhgnaaDoor
open Go.RowKit

theorem name_one (c : UInt8) : nameL [c] = nmB true c := by
  cases h : nmB true c with
  | true => rw [name_yes (l := [c]) (fun i hi => by
      have : i = 0 := by simpa using hi
      subst this; exact h)]; rfl
  | false => exact name_no (l := [c]) (k := 0) (by simp) h
theorem nm_dig {c : UInt8} (h : 48 ≤ c.toNat ∧ c.toNat ≤ 57) : nmB true c = false := by
  cases hm : nmB true c with
  | false => rfl
  | true =>
    have := (nmB_iff true c).1 hm
    exfalso
    rcases this with h2 | h2 | h2
    · omega
    · omega
    · exact absurd h2.1 (by decide)
theorem name_byte (c : UInt8) (x : ByteArray) (r : Bool) (hx : L x = [c]) (hr : nmB true c = r) (W : World) : Calls Tryd.prog 39 #[.string x] W fun e w' => e = .returned (.bool r) ∧ Below W.heap.size W w' := by
  have h := name_any x W (by unfold maxLen; have := congrArg List.length hx; rw [L_size] at this; simp at this; omega)
  rw [hx, name_one, hr] at h
  exact h
set_option maxHeartbeats 1000000 in
set_option maxRecDepth 100000 in
theorem sname_none {w : World} {g : Nat} {s : ByteArray} {c : UInt8} {r : List UInt8} {lf : Int} {vv : Value} {q : Int} (k : SR w g s (c :: r) lf vv q) (hs : s.size ≤ 1000000) (hc : 48 ≤ c.toNat ∧ c.toNat ≤ 57) :
    Calls Tryd.prog 31 #[.pointer (some ⟨g, 0, none⟩)] w fun e w' => e = .returned (.string ⟨#[]⟩) ∧ SR w' g s (c :: r) lf vv q ∧ But g g w w' := by
  obtain ⟨p, hp, hl, hsb⟩ := k
  have hlen : (c :: r).length = s.size - p := by rw [← hl, List.length_drop, L_size]
  rw [List.length_cons] at hlen
  have h0 : p < s.size := by omega
  have hat : (L s).getD p 0 = c := by
    have := drop_getD (L s) h0
    rw [hl] at this
    exact (List.cons.inj this).1.symm
  have ix := fun W => run_idx (P := Tryd.prog) Tryd.underlying9 s (k := .i64) (p : Int) p rfl h0 W
  rw [hat] at ix
  have hw1 : IntKind.i64.wrap ((p : Int) + 1) = ((p + 1 : Nat) : Int) := by rw [IntWalk.i64_in _ ⟨by omega, by omega⟩]; omega
  have hse := fun (W : World) => run_sl (P := Tryd.prog) Tryd.underlying9 s (p : Int) (p : Int) p p rfl rfl (by omega) (by omega) W
  have hxL : L (s.extract p (p + 1)) = [c] := by
    rw [L_extract, show p + 1 - p = 1 by omega, drop_getD (L s) h0, hat]
    rfl
  have hee : s.extract p p = ⟨#[]⟩ := by
    apply L_inj
    rw [L_extract, Nat.sub_self]; rfl
  rw [hee] at hse
  have C1 := Lib.hid (name_byte c _ false hxL (nm_dig hc))
  have h36b : (((c.toNat : Nat) : Int) == 36) = false := by rw [beq_eq_false_iff_ne]; omega
  have y0 := hsb.c0
  have y1 := hsb.c1
  have z1 := hsb.z1
  have HSB := Lib.hid hsb
  have HL := Lib.hid hl
  have hbs := hsb.lt
  clear hsb hs hl hlen hat hxL hee hc
  go_enter Tryd.func31, Tryd.ntmps31
  go_wp2_with fail
  go_quiet (fail)
  go_wp2_with fail
  refine wp_loop_rounds 1 ?_
  rw [rounds_succ]
  go_wp2_with fail
  refine (C1.out _).mono ?_
  rintro e w1 ⟨rfl, hb1⟩
  have HB : Hid (Below w.heap.size w w1) := Lib.hid ((below_drewN (Below.refl _ _) nq).trans hb1)
  have x0 := (HB.out.cell (p := ⟨g, 0, none⟩) hbs).trans y0
  have x1 := (HB.out.cell (p := ⟨g, 1, none⟩) hbs).trans y1
  have x2 : w1.frozen? ⟨g, 1, none⟩ = false := (HSB.out.below HB.out).z1
  clear hb1 y0 y1 z1
  go_wp2_with fail
  go_quiet (fail)
  have HF : Hid (SR ((((w1.drewN nq)).setCell ⟨g, 1, none⟩ (.int .i64 (p : Int))).setCell ⟨g, 1, none⟩ (.int .i64 (p : Int))) g s (c :: r) lf vv q) := Lib.hid ⟨p, hp, HL.out, ((((HSB.out.below HB.out).drewN _).put1 p).put1 p)⟩
  go_wp2_with fail
  go_ret
  exact ⟨rfl, HF.out, (((But.of_below HB.out).drewN _).setG 1 _).setG 1 _⟩
set_option maxHeartbeats 1600000 in
set_option maxRecDepth 100000 in
theorem sname_x {w : World} {g : Nat} {s : ByteArray} {r : List UInt8} {lf : Int} {vv : Value} {q : Int} (k : SR w g s (120 :: 61 :: r) lf vv q) (hs : s.size ≤ 1000000) :
    Calls Tryd.prog 31 #[.pointer (some ⟨g, 0, none⟩)] w fun e w' => e = .returned (.string ⟨#[120]⟩) ∧ SR w' g s (61 :: r) lf vv q ∧ But g g w w' := by
  obtain ⟨p, hp, hl, hsb⟩ := k
  have hlen : (120 :: 61 :: r).length = s.size - p := by rw [← hl, List.length_drop, L_size]
  rw [List.length_cons, List.length_cons] at hlen
  have h0 : p < s.size := by omega
  have h1 : p + 1 < s.size := by omega
  have hd0 := drop_getD (L s) h0
  rw [hl] at hd0
  have hat : (L s).getD p 0 = 120 := (List.cons.inj hd0).1.symm
  have hl1 : (L s).drop (p + 1) = 61 :: r := (List.cons.inj hd0).2.symm
  have hat1 : (L s).getD (p + 1) 0 = 61 := by
    have := drop_getD (L s) h1
    rw [hl1] at this
    exact (List.cons.inj this).1.symm
  have ix := fun W => run_idx (P := Tryd.prog) Tryd.underlying9 s (k := .i64) (p : Int) p rfl h0 W
  rw [hat] at ix
  have ix1 := fun W => run_idx (P := Tryd.prog) Tryd.underlying9 s (k := .i64) ((p + 1 : Nat) : Int) (p + 1) rfl h1 W
  rw [hat1] at ix1
  have hse := fun (W : World) => run_sl (P := Tryd.prog) Tryd.underlying9 s (p : Int) ((p + 1 : Nat) : Int) p (p + 1) rfl rfl (by omega) (by omega) W
  have hse2 := fun (W : World) => run_sl (P := Tryd.prog) Tryd.underlying9 s ((p + 1 : Nat) : Int) ((p + 1 + 1 : Nat) : Int) (p + 1) (p + 1 + 1) rfl rfl (by omega) (by omega) W
  have hxL : L (s.extract p (p + 1)) = [120] := by
    rw [L_extract, show p + 1 - p = 1 by omega, drop_getD (L s) h0, hat]
    rfl
  have hxL1 : L (s.extract (p + 1) (p + 1 + 1)) = [61] := by
    rw [L_extract, show p + 1 + 1 - (p + 1) = 1 by omega, drop_getD (L s) h1, hat1]
    rfl
  have hee : s.extract p (p + 1) = ⟨#[120]⟩ := L_inj hxL
  have hee2 : s.extract (p + 1) (p + 1 + 1) = ⟨#[61]⟩ := L_inj hxL1
  rw [hee2] at hse2
  have C1 := Lib.hid (name_byte 120 ⟨#[120]⟩ true rfl (by decide))
  have C2 := Lib.hid (name_byte 61 ⟨#[61]⟩ false rfl (by decide))
  rw [hee] at hse
  obtain ⟨p1, hp1⟩ : ∃ p1, p1 = p + 1 := ⟨_, rfl⟩
  obtain ⟨p2, hp2⟩ : ∃ p2, p2 = p1 + 1 := ⟨_, rfl⟩
  rw [← hp1] at ix1 hse hse2 hl1 h1
  rw [← hp2] at hse2
  have hv1 : (p : Int) + 1 = (p1 : Int) := by omega
  have hv2 : (p1 : Int) + 1 = (p2 : Int) := by omega
  have hgt2 : p < p1 := by omega
  have hwp1 : wrap64 (p1 : Int) = (p1 : Int) := wrap_id ⟨by omega, by omega⟩
  have hwp2 : wrap64 (p2 : Int) = (p2 : Int) := wrap_id ⟨by omega, by omega⟩
  clear hp1 hp2
  have h36b : ((((120 : UInt8).toNat : Nat) : Int) == 36) = false := by decide
  have y0 := hsb.c0
  have y1 := hsb.c1
  have z1 := hsb.z1
  have HSB := Lib.hid hsb
  have HL := Lib.hid hl1
  have HS := Lib.hid hs
  have hbs := hsb.lt
  clear hsb hs hl hl1 hlen hat hat1 hxL hxL1 hee hee2 hd0
  go_enter Tryd.func31, Tryd.ntmps31
  go_wp2_with fail
  go_quiet (fail)
  go_wp2_with fail
  refine wp_loop_rounds 2 ?_
  rw [rounds_succ]
  go_wp2_with fail
  refine (C1.out _).mono ?_
  rintro e w1 ⟨rfl, hb1⟩
  have HB : Hid (Below w.heap.size w w1) := Lib.hid ((below_drewN (Below.refl _ _) nq).trans hb1)
  have x0 := (HB.out.cell (p := ⟨g, 0, none⟩) hbs).trans y0
  have x1 := (HB.out.cell (p := ⟨g, 1, none⟩) hbs).trans y1
  clear hb1 y0 y1 z1
  go_wp2_with fail
  rw [rounds_succ]
  go_wp2_with fail
  refine (C2.out _).mono ?_
  rintro e w2 ⟨rfl, hb2⟩
  have HB2 : Hid (Below w.heap.size w w2) := Lib.hid (HB.out.trans (hb2.mono HB.out.size))
  clear hb2 x0 x1
  have x0 : w2.cell? ⟨g, 0, none⟩ = some (.string s) := (HSB.out.below HB2.out).c0
  have x1 : w2.cell? ⟨g, 1, none⟩ = some (.int .i64 (p : Int)) := (HSB.out.below HB2.out).c1
  have x2 : w2.frozen? ⟨g, 1, none⟩ = false := (HSB.out.below HB2.out).z1
  go_wp2_with fail
  go_quiet (fail)
  have HP : Hid (SB ((w2.drewN nq).setCell ⟨g, 1, none⟩ (.int .i64 ((p1 : Nat) : Int))) g s (p1) lf vv q ∧ But g g w ((w2.drewN nq).setCell ⟨g, 1, none⟩ (.int .i64 ((p1 : Nat) : Int)))) := Lib.hid ⟨((HSB.out.below HB2.out).drewN _).put1 (p1), ((But.of_below HB2.out).drewN _).setG 1 _⟩
  go_wp2_with fail
  refine (blanks_any HP.out.1 (by omega) HS.out).mono ?_
  rintro e w5 ⟨rfl, p5, hp5, hd5, hsb5, hb5⟩
  have HF : Hid (SR w5 g s (61 :: r) lf vv q ∧ But g g w w5) := Lib.hid ⟨⟨p5, hp5, by rw [hd5, HL.out]; exact skip_cons (by decide) r, hsb5⟩, HP.out.2.trans hb5⟩
  clear hd5 hsb5 hb5
  go_wp2_with fail
  go_ret
  exact ⟨rfl, HF.out⟩
end Go.Proofs.YtpgneaekflhgnaaDoor
