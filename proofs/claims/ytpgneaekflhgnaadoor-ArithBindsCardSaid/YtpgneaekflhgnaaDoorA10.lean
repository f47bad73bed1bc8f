/-
  The walk of unary, where a number comes.
-/
import Derived.Test.YtpgneaekflhgnaaDoorA9
import Derived.Test.YtpgneaekflhgnaaDoorA7
import Derived.Test.YtpgneaekflhgnaaDoorA4
import Derived.Defers
import Derived.Recover
namespace Go.Proofs.YtpgneaekflhgnaaDoor
open Go.RowKit

theorem cell_but {g : Nat} {a b : World} (h : But g g a b) {p : Addr} (h1 : p.block < a.heap.size) (h2 : p.block ≠ g) : b.cell? p = a.cell? p := World.cell?_of_block (h.block p.block h1 h2 h2)
/-- The sum, and the box that holds its pointer. -/
structure BX (w0 W : World) (xb g : Nat) (s : ByteArray) (l : List UInt8) (lf : Int) (vv : Value) (q : Int) : Prop where
  sr : SR W g s l lf vv q
  box : W.cell? ⟨xb, 0, none⟩ = some (.pointer (some ⟨g, 0, none⟩))
  lt : xb < W.heap.size
  ne : xb ≠ g
  but : But g g w0 W
section
variable {w0 W W2 : World} {xb g : Nat} {s : ByteArray} {l l' : List UInt8} {lf lf' : Int} {vv : Value} {q q' : Int}
theorem BX.step (h : BX w0 W xb g s l lf vv q) (h2 : SR W2 g s l' lf' vv q') (hb : But g g W W2) : BX w0 W2 xb g s l' lf' vv q' :=
  ⟨h2, (cell_but hb (p := ⟨xb, 0, none⟩) h.lt h.ne).trans h.box, Nat.lt_of_lt_of_le h.lt hb.size, h.ne, h.but.trans hb⟩
theorem BX.start (h : SR w0 g s l lf vv q) (T : TypeId) : BX w0 (w0.alloc (.cells #[.pointer (some ⟨g, 0, none⟩)] T)) w0.heap.size g s l lf vv q :=
  ⟨h.alloc _, by simp, by simp, Nat.ne_of_gt h.lt, (But.refl g g w0).alloc _⟩
theorem in_sr (k : SR W g s l lf vv q) (h1 : 1 ≤ lf) (h2 : lf ≤ 200) :
    Calls Tryd.prog 41 #[.pointer (some ⟨g, 0, none⟩)] W fun e w' => e = .returned (.tuple #[]) ∧ SR w' g s l (lf - 1) vv q ∧ But g g W w' := by
  obtain ⟨p, hp, hl, hb⟩ := k
  exact (in_any hb h1 h2).mono fun e w' ⟨h1, h2, h3⟩ => ⟨h1, ⟨p, hp, hl, h2⟩, h3⟩
theorem take_none (k : SR W g s l lf vv q) (hs : s.size ≤ 1000000) (t : ByteArray) (h : takeL (L t) [] l = false) :
    Calls Tryd.prog 32 #[.pointer (some ⟨g, 0, none⟩), .string t, .slice none 0 0] W fun e w' => e = .returned (.bool false) ∧ SR w' g s l lf vv q ∧ But g g W w' := by
  have h2 := take_any k hs t none 0 0 [] ⟨rfl, Nat.zero_le _, .inl rfl⟩ (by simp)
  rw [show ([] : List ByteArray).map L = [] from rfl, h, if_neg Bool.false_ne_true] at h2
  exact h2
theorem take_none1 (k : SR W g s l lf vv q) (hs : s.size ≤ 1000000) (t x : ByteArray) (T : TypeId) (h : takeL (L t) [L x] l = false) :
    Calls Tryd.prog 32 #[.pointer (some ⟨g, 0, none⟩), .string t, .slice (some ⟨W.heap.size, 0, none⟩) 1 1] (W.alloc (.cells #[.string x] T)) fun e w' => e = .returned (.bool false) ∧ SR w' g s l lf vv q ∧ But g g W w' := by
  have h2 := take_any (k.alloc (.cells #[.string x] T)) hs t (some ⟨W.heap.size, 0, none⟩) 1 _ [x] (elems_one W (.string x) T) (by simp)
  rw [show [x].map L = [L x] from rfl, h, if_neg Bool.false_ne_true] at h2
  exact h2.mono fun e w' ⟨h1, h2, h3⟩ => ⟨h1, h2, ((But.refl g g W).alloc _).trans h3⟩
theorem take_ne (c d : UInt8) (t r : List UInt8) (but : List (List UInt8)) (h : (d == c) = false) : takeL (d :: t) but (c :: r) = false := by
  show ((d == c && t.isPrefixOf r) && _) = false
  rw [h]; rfl
theorem left_up (k : SR W g s l lf vv q) (hx : W.cell? ⟨xb, 0, none⟩ = some (.pointer (some ⟨g, 0, none⟩))) (h1 : -1 ≤ lf) (h2 : lf ≤ 200) (u : FrameMode) :
    CallsD Tryd.prog 75 #[.pointer (some ⟨xb, 0, none⟩)] u W fun e u' w' => u' = u ∧ (e = .returned (.tuple #[]) ∧ SR w' g s l (lf + 1) vv q ∧ But g g W w') := by
  obtain ⟨p, hp, hl, hb⟩ := k
  have y := hb.c2
  have z := hb.z2
  have hw : IntKind.i64.wrap (lf + 1) = lf + 1 := IntWalk.i64_in _ ⟨by omega, by omega⟩
  have HH : Hid (SR (W.setCell ⟨g, 2, none⟩ (.int .i64 (lf + 1))) g s l (lf + 1) vv q ∧ But g g W (W.setCell ⟨g, 2, none⟩ (.int .i64 (lf + 1)))) := Lib.hid ⟨⟨p, hp, hl, hb.put2 _⟩, (But.refl g g W).setG 2 _⟩
  clear hb hp hl
  go_enter_d Tryd.func75, Tryd.ntmps75
  go_wp2_with fail
  go_end0
  exact ⟨rfl, HH.out⟩
end
set_option maxHeartbeats 1600000 in
set_option maxRecDepth 100000 in
theorem un_any {w : World} {g : Nat} {s : ByteArray} {n : Nat} {r : List UInt8} {lf : Int} {vv : Value} {q : Int} (k : SR w g s (Lib.decDigits n ++ r) lf vv q) (hs : s.size ≤ 1000000) (hn : n < 9223372036854775808) (hr : (Lib.decDigits n ++ r).takeWhile letB = Lib.decDigits n) (h1 : 1 ≤ lf) (h2 : lf ≤ 200) :
    Calls Tryd.prog 60 #[.pointer (some ⟨g, 0, none⟩)] w fun e w' => e = .returned (.int .i64 (n : Int)) ∧ SR w' g s (skipB r) lf vv q ∧ But g g w w' := by
  have hmf : ∀ (fn : Fn) (first cap : Array Value) (w : World), (Instr.makeFunc fn first cap).run Tryd.prog w = .ok (.func fn first cap) w := fun _ _ _ _ => rfl
  obtain ⟨c, t, hct⟩ : ∃ c t, Lib.decDigits n = c :: t := by
    cases h : Lib.decDigits n with
    | nil => exact absurd h (dec_ne n)
    | cons c t => exact ⟨c, t, rfl⟩
  have hcd : 48 ≤ c.toNat ∧ c.toNat ≤ 57 := dec_dig n c (by rw [hct]; simp)
  have HC : Hid (∀ d : UInt8, d.toNat < 48 ∨ 57 < d.toNat → (d == c) = false) := Lib.hid fun d hd => by
    rw [beq_eq_false_iff_ne]
    rintro rfl
    omega
  have HCD := Lib.hid hcd
  have HE : Hid (Lib.decDigits n ++ r = c :: (t ++ r)) := Lib.hid (by rw [hct]; rfl)
  have HS := Lib.hid hs
  have HN := Lib.hid (And.intro hn hr)
  have HL := Lib.hid (And.intro h1 h2)
  have B0 := Lib.hid (BX.start k 52)
  clear hct hcd hs hn hr h1 h2 k
  go_enter_defers Tryd.func60, Tryd.ntmps60
  go_wp2_with fail
  refine (in_sr B0.out.sr HL.out.1 HL.out.2).mono ?_
  rintro e w1 ⟨rfl, hs1, hb1⟩
  have B1 := Lib.hid (B0.out.step hs1 hb1)
  have d1 := B1.out.box
  clear hs1 hb1 B0
  rw [HE.out] at B1
  go_wp2_with fail
  refine (take_none B1.out.sr HS.out ⟨#[40]⟩ (take_ne c 40 [] (t ++ r) [] (HC.out 40 (by decide)))).mono ?_
  rintro e w2 ⟨rfl, hs1, hb1⟩
  have B2 := Lib.hid (B1.out.step hs1 hb1)
  have dB2 := B2.out.box
  clear hs1 hb1
  go_wp2_with fail
  refine (take_none B2.out.sr HS.out ⟨#[45]⟩ (take_ne c 45 [] (t ++ r) [] (HC.out 45 (by decide)))).mono ?_
  rintro e w3 ⟨rfl, hs1, hb1⟩
  have B3 := Lib.hid (B2.out.step hs1 hb1)
  have dB3 := B3.out.box
  clear hs1 hb1
  go_wp2_with fail
  refine (take_none B3.out.sr HS.out ⟨#[43]⟩ (take_ne c 43 [] (t ++ r) [] (HC.out 43 (by decide)))).mono ?_
  rintro e w4 ⟨rfl, hs1, hb1⟩
  have B4 := Lib.hid (B3.out.step hs1 hb1)
  have dB4 := B4.out.box
  clear hs1 hb1
  go_wp2_with fail
  refine (take_none1 B4.out.sr HS.out ⟨#[33]⟩ ⟨#[33, 61]⟩ _ (take_ne c 33 [] (t ++ r) [[33, 61]] (HC.out 33 (by decide)))).mono ?_
  rintro e w5 ⟨rfl, hs1, hb1⟩
  have B5 := Lib.hid (B4.out.step hs1 hb1)
  have dB5 := B5.out.box
  clear hs1 hb1
  go_wp2_with fail
  refine (take_none B5.out.sr HS.out ⟨#[126]⟩ (take_ne c 126 [] (t ++ r) [] (HC.out 126 (by decide)))).mono ?_
  rintro e w6 ⟨rfl, hs1, hb1⟩
  have B6 := Lib.hid (B5.out.step hs1 hb1)
  have dB6 := B6.out.box
  clear hs1 hb1
  go_wp2_with fail
  refine (sname_none B6.out.sr HS.out HCD.out).mono ?_
  rintro e w7 ⟨rfl, hs1, hb1⟩
  have B7 := Lib.hid (B6.out.step hs1 hb1)
  have dB7 := B7.out.box
  clear hs1 hb1
  go_wp2_with fail
  refine (number_any (HE.out ▸ B7.out.sr) HS.out HN.out.1 HN.out.2).mono ?_
  rintro e w8 ⟨rfl, hs1, hb1⟩
  have B8 := Lib.hid (B7.out.step hs1 hb1)
  have dB8 := B8.out.box
  clear hs1 hb1
  go_wp2_with fail
  have C9 := Lib.hid (left_up B8.out.sr dB8 (by have := HL.out; omega) (by have := HL.out; omega) .returning)
  refine leaves_cons (f := 75) (args := #[.pointer (some ⟨w.heap.size, 0, none⟩)]) (by simp) (by simp [go_sem]) ?_
  refine C9.out.mono ?_
  rintro e u' w9 ⟨rfl, rfl, hs9, hb9⟩
  rw [Int.sub_add_cancel] at hs9
  exact ⟨_, results_tmp rfl _ _ _, rfl, hs9, B8.out.but.trans hb9⟩
end Go.Proofs.YtpgneaekflhgnaaDoor
