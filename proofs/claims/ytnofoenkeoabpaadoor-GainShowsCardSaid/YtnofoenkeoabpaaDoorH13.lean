/-
  ftoa64 of nothing; FormatFloat; IsInf below: the walks.
-/
import Derived.Test.YtnofoenkeoabpaaDoorH12
import Derived.Laws.MakeOwn
namespace Go.Proofs.YtnofoenkeoabpaaDoor
open Go.RowKit

def shownZ (neg : Bool) : List UInt8 := (if neg then [45] else []) ++ [48, 46, 48, 48, 48]
set_option maxHeartbeats 1600000 in
set_option maxRecDepth 100000 in
theorem ftoaZ_walk (x s e1 : Nat) (neg : Bool) (v : Value) (B : Nat) (w : World)
    (hs : (x : Int) / 9223372036854775808 = (s : Int)) (hneg : ((s : Int) != 0) = neg)
    (he1 : (x : Int) / 4503599627370496 = (e1 : Int)) (he4 : e1 ≤ 4095) (hex : bits BinOp.and .i64 (e1 : Int) 2047 = 0)
    (hf : bits BinOp.and .u64 (x : Int) 4503599627370495 = 0) (hG : Gl B w) (hown : OwnB w B v []) (hB : B ≤ w.heap.size) :
    Calls Tryd.prog 28 #[v, .float .f64 x, .int .u8 102, .int .i64 3] w fun r w' => ∃ v', r = .returned v' ∧ OwnB w' B v' (shownZ neg) ∧ Below B w w' := by
  have H6 := fun w' b v h => Lib.hid (fmtZ_any w w' B b v neg h (R := shownZ neg) rfl)
  have HD : Hid (DS w B 1 [] w v []) := Lib.hid ⟨hown, Below.refl _ _, (by
    have hg := hG.2.2.2.2.2
    rcases hown.form with ⟨rfl, _⟩ | ⟨g1, cap1, rfl, h, _⟩
    · intro e; cases e
    · intro e
      have : g1 = 1 := by injection e
      omega), fun j hj => absurd hj (by simp), hG.2.2.1.2, hB⟩
  clear hown hG
  go_enter Tryd.func28, Tryd.ntmps28
  go_wp2_with fail
  go_quiet (fail)
  go_wp2_with fail
  refine (H6 _ _ _ (HD.out.drewN nq)).out.mono ?_
  rintro e w6 ⟨v6, rfl, hd6⟩
  have HD6 := Lib.hid hd6
  clear hd6
  go_wp2_with fail
  go_ret
  exact ⟨_, rfl, HD6.out.1, HD6.out.2.1⟩

theorem ftoaZ_any (neg : Bool) (v : Value) (B : Nat) (w : World) (hG : Gl B w) (hown : OwnB w B v []) (hB : B ≤ w.heap.size) :
    Calls Tryd.prog 28 #[v, .float .f64 (sgW neg 0), .int .u8 102, .int .i64 3] w fun r w' => ∃ v', r = .returned v' ∧ OwnB w' B v' (shownZ neg) ∧ Below B w w' := by
  cases neg
  · exact ftoaZ_walk 0 0 0 false v B w rfl rfl rfl (by decide) (by decide) (by decide) hG hown hB
  · exact ftoaZ_walk 9223372036854775808 1 2048 true v B w rfl rfl rfl (by decide) (by decide) (by decide) hG hown hB

/-- What ftoa64 lays. -/
def FtoaC (x : Nat) (R : List UInt8) : Prop := ∀ (v : Value) (B : Nat) (w : World), Gl B w → OwnB w B v [] → B ≤ w.heap.size →
    Calls Tryd.prog 28 #[v, .float .f64 x, .int .u8 102, .int .i64 3] w fun r w' => ∃ v', r = .returned v' ∧ OwnB w' B v' R ∧ Below B w w'
set_option maxRecDepth 100000 in
theorem ff1_any (x : Nat) (R : List UInt8) (hF : FtoaC x R) (w : World) (hG : Gl w.heap.size w) :
    Calls Tryd.prog 17 #[.float .f64 x, .int .u8 102, .int .i64 3, .int .i64 64] w fun r w' => r = .returned (.string (S R)) ∧ Below w.heap.size w w' := by
  have H := fun v B w h1 h2 h3 => Lib.hid (hF v B w h1 h2 h3)
  obtain ⟨i0, hi, hz0, hz1, hz2⟩ := info_parts info8
  obtain ⟨w1, hmk, hown, hgr⟩ := run_make_own w w.heap.size 36 5 i0 (.int .u8 0) 1 Tryd.underlying36 hi hz0 hz1 .i64 .i64 24 (by rw [hz2]; decide) (by unfold maxLen; decide) (Nat.le_refl _)
  have hb1 : Below w.heap.size w w1 := (Below.refl _ _).grown hgr (Nat.le_refl _) fun k hk => by cases hk
  have HG := Lib.hid (hG.below hb1)
  have HB := Lib.hid hb1
  have HO : Hid (OwnB w1 w.heap.size (.slice (some ⟨w.heap.size, 0, none⟩) 0 24) []) := Lib.hid hown
  have hmx : max (7 : Int) 24 = ((24 : Nat) : Int) := rfl
  rw [← hmx] at hmk
  clear hF hG hown hgr hb1 hi hz0 hz1 hz2 hmx
  go_enter Tryd.func17, Tryd.ntmps17
  go_wp2_with fail
  refine (H _ _ _ HG.out HO.out HB.out.size).out.mono ?_
  rintro e w2 ⟨v2, rfl, ho2, hb2⟩
  have hcv := ho2.conv
  have HB2 := Lib.hid (HB.out.trans hb2)
  clear ho2 hb2
  go_wp2_with fail
  go_ret
  exact ⟨rfl, HB2.out⟩

theorem ff_any (x : Nat) (R : List UInt8) (hF : FtoaC x R) (w : World) (hG : Gl w.heap.size w) :
    Calls Tryd.prog 12 #[.float .f64 x, .int .u8 102, .int .i64 3, .int .i64 64] w fun r w' => r = .returned (.string (S R)) ∧ Below w.heap.size w w' := by
  have H := Lib.hid (ff1_any x R hF w hG)
  clear hF hG
  go_enter Tryd.func12, Tryd.ntmps12
  go_wp2_with fail
  refine H.out.mono ?_
  rintro e w1 ⟨rfl, hb⟩
  have HB := Lib.hid hb
  clear hb
  go_wp2_with fail
  go_ret
  exact ⟨rfl, HB.out⟩

theorem isInfP_any (x : Nat) (w : World) : Calls Tryd.prog 11 #[.float .f64 x, .int .i64 1] w fun e w' => e = .returned (.bool (infB x)) ∧ w' = w := isInf_any x w
theorem isInfM_any (x : Nat) (hx : x < 18446744073709551616) (w : World) : Calls Tryd.prog 11 #[.float .f64 x, .int .i64 (-1)] w fun e w' => e = .returned (.bool (infB (negN x))) ∧ w' = w := by
  obtain ⟨b, hb⟩ : ∃ b, infB (negN x) = b := ⟨_, rfl⟩
  have hu := unary_negf hx
  rw [hb]
  unfold infB MAXF at hb
  clear hx
  go_enter Tryd.func11, Tryd.ntmps11
  go_wp2
  go_ret
  exact ⟨rfl, rfl⟩
end Go.Proofs.YtnofoenkeoabpaaDoor
