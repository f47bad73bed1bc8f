/-
  prescale and uscale: the walks.
-/
import Derived.Test.YtnofoenkeoabpaaDoorH3
import Derived.Test.YtnofoenkeoabpaaDoorSl
namespace Go.Proofs.YtnofoenkeoabpaaDoor
open Go.RowKit

/-- The two powers of ten that are met. -/
def hi3 : Int := 18014398509481984000
def hi4 : Int := 11258999068426240000
def PTab (W : World) : Prop := (W.cell? ⟨3, 702, none⟩ = some (.int .u64 18014398509481984000) ∧ W.cell? ⟨3, 703, none⟩ = some (.int .u64 0) ∧
  W.cell? ⟨3, 704, none⟩ = some (.int .u64 11258999068426240000) ∧ W.cell? ⟨3, 705, none⟩ = some (.int .u64 0)) ∧ 3 < W.heap.size
theorem PTab.below {W W' : World} {B : Nat} (h : PTab W) (hb : Below B W W') (hB : 3 < B) : PTab W' :=
  ⟨⟨(hb.cell (p := ⟨3, 702, none⟩) hB).trans h.1.1, (hb.cell (p := ⟨3, 703, none⟩) hB).trans h.1.2.1, (hb.cell (p := ⟨3, 704, none⟩) hB).trans h.1.2.2.1, (hb.cell (p := ⟨3, 705, none⟩) hB).trans h.1.2.2.2⟩, Nat.lt_of_lt_of_le h.2 hb.size⟩

theorem prescale3_any (b t : Nat) (x0 x1 x2 : Value) (e s : Int) (w : World) (h : Blk w b t #[x0, x1, x2]) (hb : 3 < b) (hp : PTab w) (he : s = -(e + 12)) (h1 : -100 ≤ e) (h2 : e ≤ 0) :
    Calls Tryd.prog 50 #[.pointer (some ⟨b, 0, none⟩), .int .i64 e, .int .i64 3, .int .i64 9] w fun r w' => r = .returned (.tuple #[]) ∧ Blk w' b t #[.int .u64 18014398509481984000, .int .u64 0, .int .i64 s] ∧ Below b w w' := by
  obtain ⟨⟨p1, p2, _, _⟩, _⟩ := hp
  have c0 := h.cell 0
  have c1 := h.cell 1
  have c2 := h.cell 2
  have f0 := h.free 0
  have f1 := h.free 1
  have f2 := h.free 2
  have HB := Lib.hid h
  have HE := Lib.hid he
  clear h he
  go_enter Tryd.func50, Tryd.ntmps50
  go_wp2
  have hs : -(e + 9 + 3) = s := by have := HE.out; omega
  go_end0
  rw [hs]
  exact ⟨rfl, ((HB.out.put 0 _).put 1 _).put 2 _, (((Below.refl b w).setCell (p := ⟨b, 0, none⟩) (Nat.le_refl b) _).setCell (p := ⟨b, 1, none⟩) (Nat.le_refl b) _).setCell (p := ⟨b, 2, none⟩) (Nat.le_refl b) _⟩
theorem prescale4_any (b t : Nat) (x0 x1 x2 : Value) (e s : Int) (w : World) (h : Blk w b t #[x0, x1, x2]) (hb : 3 < b) (hp : PTab w) (he : s = -(e + 16)) (h1 : -100 ≤ e) (h2 : e ≤ 0) :
    Calls Tryd.prog 50 #[.pointer (some ⟨b, 0, none⟩), .int .i64 e, .int .i64 4, .int .i64 13] w fun r w' => r = .returned (.tuple #[]) ∧ Blk w' b t #[.int .u64 11258999068426240000, .int .u64 0, .int .i64 s] ∧ Below b w w' := by
  obtain ⟨⟨_, _, p1, p2⟩, _⟩ := hp
  have c0 := h.cell 0
  have c1 := h.cell 1
  have c2 := h.cell 2
  have f0 := h.free 0
  have f1 := h.free 1
  have f2 := h.free 2
  have HB := Lib.hid h
  have HE := Lib.hid he
  clear h he
  go_enter Tryd.func50, Tryd.ntmps50
  go_wp2
  have hs : -(e + 13 + 3) = s := by have := HE.out; omega
  go_end0
  rw [hs]
  exact ⟨rfl, ((HB.out.put 0 _).put 1 _).put 2 _, (((Below.refl b w).setCell (p := ⟨b, 0, none⟩) (Nat.le_refl b) _).setCell (p := ⟨b, 1, none⟩) (Nat.le_refl b) _).setCell (p := ⟨b, 2, none⟩) (Nat.le_refl b) _⟩
theorem uscale_any (x hi U V s b t : Nat) (w : World) (hx : x < 18446744073709551616) (hh : hi < 18446744073709551616) (hs : s < 64) (hV : V < 18446744073709551616) (eV : V = U * 2 ^ s) (hm : x * hi = V * 18446744073709551616)
    (h : Blk w b t #[.int .u64 (hi : Int), .int .u64 0, .int .i64 (s : Int)]) :
    Calls Tryd.prog 52 #[.int .u64 (x : Int), .pointer (some ⟨b, 0, none⟩)] w fun r w' => r = .returned (.int .u64 (U : Int)) ∧ Below w.heap.size w w' := by
  have c0 := h.cell 0
  have c1 := h.cell 1
  have c2 := h.cell 2
  have C1 : Calls Tryd.prog 69 #[.int .u64 (x : Int), .int .u64 (hi : Int)] w fun e w' => e = .returned (.tuple #[.int .u64 (V : Int), .int .u64 0]) ∧ w' = w := by
    have := Tryd.bits_Mul64 x hi hx hh w
    rw [hm, Nat.mul_div_cancel _ (by omega), Nat.mul_mod_left] at this
    exact this
  have C2 : Calls Tryd.prog 69 #[.int .u64 (x : Int), .int .u64 0] w fun e w' => e = .returned (.tuple #[.int .u64 0, .int .u64 0]) ∧ w' = w := by
    have := Tryd.bits_Mul64 x 0 hx (by omega) w
    rw [Nat.mul_zero] at this
    exact this
  have H1 := Lib.hid C1
  have H2 := Lib.hid C2
  have hA : bits BinOp.and .i64 (s : Int) 63 = (s : Int) := by rw [show (63 : Int) = ((2 ^ 6 - 1 : Nat) : Int) from rfl, bits_and_mask .i64 6 (by decide)]; omega
  have hp := Nat.two_pow_pos s
  have hR : (V : Int) / 2 ^ s = (U : Int) := by
    rw [eV, show ((U * 2 ^ s : Nat) : Int) = (U : Int) * 2 ^ s by simp, Int.mul_ediv_cancel _ (by have : (0 : Int) < 2 ^ s := Int.pow_pos (by decide); omega)]
  have hO := bits_or_0 (U : Int) (by omega) (by have : U ≤ V := by rw [eV]; exact Nat.le_mul_of_pos_right _ hp
                                                omega)
  have hL : (U : Int) * 2 ^ s = (V : Int) := by rw [eV]; simp
  clear C1 C2 hm hx hh h eV hp
  go_enter Tryd.func52, Tryd.ntmps52
  go_wp2_with fail
  refine H1.out.mono ?_
  rintro e w1 ⟨rfl, rfl⟩
  go_wp2_with fail
  refine H2.out.mono ?_
  rintro e w1 ⟨rfl, rfl⟩
  go_wp2_with fail
  refine (b2u_any false w1).mono ?_
  rintro e w1 ⟨rfl, rfl⟩
  go_wp2_with fail
  go_quiet ((go_at_call 70; with_reducible exact Calls.quiet_of_same (b2u_any _ _)))
  go_wp2_with fail
  go_ret
  exact ⟨rfl, below_drewN (Below.refl _ _) _⟩
end Go.Proofs.YtnofoenkeoabpaaDoor
