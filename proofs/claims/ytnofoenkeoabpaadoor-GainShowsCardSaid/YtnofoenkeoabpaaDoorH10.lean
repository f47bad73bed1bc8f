/-
  ftoa64 of an eighth: the walk.
-/
import Derived.Test.YtnofoenkeoabpaaDoorH8
import Derived.Test.YtnofoenkeoabpaaDoorH9
import Derived.Deep.RegionHeld3
namespace Go.Proofs.YtnofoenkeoabpaaDoor
open Go.RowKit

def OptV (w : World) : Prop := w.cell? ⟨1, 0, none⟩ = some (.bool true) ∧ 1 < w.heap.size

set_option maxHeartbeats 8000000 in
set_option maxRecDepth 100000 in
theorem ftoa_walk (x s e1 ex f M top D d nd z : Nat) (X Y E dp r : Int) (neg : Bool) (l R : List UInt8) (v : Value) (B : Nat) (w : World)
    (hs : (x : Int) / 9223372036854775808 = (s : Int)) (hneg : ((s : Int) != 0) = neg)
    (he1 : (x : Int) / 4503599627370496 = (e1 : Int)) (he4 : e1 ≤ 4095) (hex : bits BinOp.and .i64 (e1 : Int) 2047 = (ex : Int)) (hx0 : ((ex : Int) == 0) = false) (hx1 : ((ex : Int) == 2047) = false) (hex2 : ex ≤ 2047)
    (hf : bits BinOp.and .u64 (x : Int) 4503599627370495 = (f : Int)) (hM : bits BinOp.or .u64 (f : Int) 4503599627370496 = (M : Int)) (hM0 : ((M : Int) == 0) = false)
    (hX : (ex : Int) + -1023 = X) (hY : 1 + X = Y) (hX9 : 0 ≤ X) (hX99 : X ≤ 100)
    (CL : ∀ w, Calls Tryd.prog 40 #[.int .i64 Y] w fun e w' => e = .returned (.int .i64 r) ∧ w' = w) (hD : 1 + r + 3 = (D : Int)) (hD18 : D ≤ 18) (hD4 : 4 ≤ D)
    (CB : ∀ w, Calls Tryd.prog 36 #[.int .u64 (M : Int)] w fun e w' => e = .returned (.int .i64 53) ∧ w' = w)
    (hT : (M : Int) * 2048 = (top : Int)) (hT2 : (top : Int) % 18446744073709551616 = (top : Int)) (hE : X - 11 - 52 = E)
    (CF : ∀ w', Below B w w' → Calls Tryd.prog 41 #[.int .u64 (top : Int), .int .i64 E, .int .i64 (D : Int), .int .i64 3, .int .u8 102] w' fun r w'' => r = .returned (.tuple #[.int .u64 (d : Int), .int .i64 (-3)]) ∧ Below w'.heap.size w' w'')
    (CN : ∀ w', Below B w w' → Calls Tryd.prog 39 #[.int .u64 (d : Int)] w' fun e w'' => e = .returned (.int .i64 (nd : Int)) ∧ w'' = w')
    (CS : ∀ w' b, Sort.Holds (fun (b : UInt8) => Value.int .u8 (b.toNat : Int)) w' b 0 (Array.replicate nd 0) → Calls Tryd.prog 38 #[.slice (some ⟨b, 0, none⟩) 24 24, .int .u64 (d : Int), .int .i64 (-3), .int .i64 (nd : Int)] w' fun r w'' => r = .returned (.tuple #[.int .i64 dp, .int .i64 (z : Int)]) ∧
      (∀ j, j < l.length → w''.cell? ⟨b, j, none⟩ = some (.int .u8 ((l.getD j 0).toNat : Nat))) ∧ Below b w' w'')
    (CG : ∀ w' b v, DS w B b l w' v [] → Calls Tryd.prog 35 #[v, .bool neg, .slice (some ⟨b, 0, none⟩) 24 24, .int .i64 dp, .int .i64 (z : Int), .int .i64 3, .int .u8 102, .bool false] w' fun r w'' => ∃ v', r = .returned v' ∧ DS w B b l w'' v' R)
    (hnd : nd ≤ 24) (hd0 : ((d : Int) == 0) = false) (hopt : OptV w) (hown : OwnB w B v []) (hB : B ≤ w.heap.size) :
    Calls Tryd.prog 28 #[v, .float .f64 x, .int .u8 102, .int .i64 3] w fun r w' => ∃ v', r = .returned v' ∧ OwnB w' B v' R ∧ Below B w w' := by
  have hop := hopt.1
  have H1 := fun w => Lib.hid (CL w)
  have H2 := fun w => Lib.hid (CB w)
  have H3 := fun w h => Lib.hid (CF w h)
  have HO := Lib.hid hown
  have H4 := fun w h => Lib.hid (CN w h)
  have H5 := fun w b h => Lib.hid (CS w b h)
  have H6 := fun w b v h => Lib.hid (CG w b v h)
  have HN := Lib.hid hnd
  have HV : Hid (v.ownBlock ≠ some w.heap.size) := Lib.hid (by
    rcases hown.form with ⟨rfl, _⟩ | ⟨g1, cap1, rfl, _, h, _⟩
    · intro e; cases e
    · intro e
      have : g1 = w.heap.size := by injection e
      omega)
  clear CL CB CF CN CS CG hown hopt hnd
  go_enter Tryd.func28, Tryd.ntmps28
  go_wp2_with fail
  go_quiet (fail)
  go_wp2_with fail
  refine (H1 _).out.mono ?_
  rintro e w1 ⟨rfl, rfl⟩
  go_wp2_with fail
  refine (H2 _).out.mono ?_
  rintro e w2 ⟨rfl, rfl⟩
  go_wp2_with fail
  have HW0 : Hid (Below B w ((w.drewN nq).alloc (.cells Lib.zeros24 66))) := Lib.hid ((below_drewN (Below.refl _ _) nq).alloc hB _)
  refine (H3 _ HW0.out).out.mono ?_
  rintro e w3 ⟨rfl, hb3⟩
  have HB3 : Hid (Below (w.heap.size + 1) ((w.drewN nq).alloc (.cells Lib.zeros24 66)) w3) := Lib.hid (hb3.mono (by simp))
  have HZ3 : Hid (Sort.Holds (fun (b : UInt8) => Value.int .u8 (b.toNat : Int)) w3.drew w.heap.size 0 (Array.replicate nd 0)) := Lib.hid (fun j hj => by
    have hj' : j < nd := by simpa using hj
    have hlt : w.heap.size < w.heap.size + 1 := by omega
    have c1 := HB3.out.cell (p := ⟨w.heap.size, 0 + j, none⟩) hlt
    have c2 := HB3.out.frozen (p := ⟨w.heap.size, 0 + j, none⟩) hlt
    refine ⟨?_, ?_⟩
    · show w3.cell? _ = _
      rw [c1]
      show ((w.drewN nq).alloc (.cells Lib.zeros24 66)).cell? ⟨(w.drewN nq).heap.size, 0 + j, none⟩ = _
      rw [World.cell?_alloc_new, Lib.zeros24_at _ (by have := HN.out; omega), getElem!_pos _ j hj]
      simp
    · show w3.frozen? _ = _
      rw [c2]
      exact World.frozen?_alloc_new (w.drewN nq) _ _ _)
  have HB3B : Hid (Below B w w3.drew) := Lib.hid ((HW0.out.trans (HB3.out.mono (by omega))).drew)
  have HS3 : Hid (w.heap.size + 1 ≤ w3.heap.size) := Lib.hid (by have := HB3.out.size; simp at this; exact this)
  clear hb3
  go_wp2_with fail
  go_region_with (first
    | (go_at_call 39; refine (H4 _ HB3B.out).out.mono ?_; rintro e w4 ⟨rfl, rfl⟩)
    | (go_at_call 38; refine (H5 _ _ HZ3.out).out.mono ?_; rintro e w5 ⟨rfl, hc5, hb5⟩; have HC5 := Lib.hid hc5; have HB5 := Lib.hid hb5; clear hc5 hb5))
  go_wp2_with fail
  have HX : Hid (Below w.heap.size w w5) := Lib.hid (((((below_drewN (Below.refl w.heap.size w) nq).alloc (Nat.le_refl _) _).trans (HB3.out.mono (by omega))).drew).trans HB5.out)
  have HL : Hid (w.heap.size < w5.heap.size) := Lib.hid (by
    have h1 := HB5.out.size
    have h2 := HS3.out
    have h3 : w3.drew.heap.size = w3.heap.size := rfl
    omega)
  refine (H6 _ _ _ ⟨HO.out.below HX.out, HX.out.mono hB, HV.out, HC5.out, HL.out, by have := HL.out; omega⟩).out.mono ?_
  rintro e w6 ⟨v6, rfl, hd6⟩
  have HD6 := Lib.hid hd6
  clear hd6
  go_wp2_with fail
  go_ret
  exact ⟨_, rfl, HD6.out.1, HD6.out.2.1⟩
end Go.Proofs.YtnofoenkeoabpaaDoor
