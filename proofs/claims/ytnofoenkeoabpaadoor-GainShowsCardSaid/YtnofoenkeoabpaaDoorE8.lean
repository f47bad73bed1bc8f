/-
  A share; what a way costs: the code's and the document's.
-/
import Derived.Test.YtnofoenkeoabpaaDoorE7
namespace Go.Proofs.YtnofoenkeoabpaaDoor
open Go.RowKit

def FI (n : Int) : Nat := floatOfInt .f64 n
@[go_sem] theorem run_inf_bits (w : World) : (callFunc 25 #[.int .u64 9218868437227405312]).run Tryd.prog w = .ok (.value (.float .f64 9218868437227405312)) w := run_f64from 9218868437227405312 w
@[go_sem] theorem run_nan_bits (w : World) : (callFunc 25 #[.int .u64 9221120237041090561]).run Tryd.prog w = .ok (.value (.float .f64 9221120237041090561)) w := run_f64from 9221120237041090561 w
/-- r may be the quotient of x and y: the one number, or any that is none. -/
def QU (x y r : Nat) : Prop := r < 18446744073709551616 ∧ (floatBits .quo .f64 x y = some r ∨ (floatBits .quo .f64 x y = none ∧ isn r = true))
theorem QU.rank {x y r s : Nat} (h1 : QU x y r) (h2 : QU x y s) : rankN r = rankN s := by
  rcases h1.2 with h1 | ⟨h1, h3⟩
  · rcases h2.2 with h2 | ⟨h2, h4⟩
    · rw [h1] at h2; injection h2 with h2; rw [h2]
    · rw [h1] at h2; cases h2
  · rcases h2.2 with h2 | ⟨h2, h4⟩
    · rw [h1] at h2; cases h2
    · unfold rankN; simp only [h3, h4, if_true]

def nanOf (w : World) (x y : Nat) : Nat := (Question.nanBits .f64 x y).cut (w.tape w.drawn (.nanBits .f64 x y))
theorem cut_nan (x y t : Nat) : (Question.nanBits .f64 x y).cut t = (t % 2) * 2 ^ 63 + 0x7ff0000000000000 + 1 + (t / 2) % (2 ^ 52 - 1) := by
  unfold Question.cut
  exact rfl
theorem nanOf_eq (w : World) (x y : Nat) : ∃ a b, a < 2 ∧ b < 4503599627370495 ∧ nanOf w x y = a * 9223372036854775808 + 9218868437227405313 + b := by
  unfold nanOf
  rw [cut_nan]
  generalize w.tape w.drawn (.nanBits .f64 x y) = t
  exact ⟨t % 2, t / 2 % (2 ^ 52 - 1), Nat.mod_lt _ (by decide), Nat.mod_lt _ (by decide), by omega⟩
theorem nanOf_isn (w : World) (x y : Nat) : isn (nanOf w x y) = true ∧ nanOf w x y < 18446744073709551616 := by
  obtain ⟨a, b, ha, hb, h⟩ := nanOf_eq w x y
  rw [h]
  unfold isn rung INFR TOP
  refine ⟨decide_eq_true ?_, by omega⟩
  rcases (show a = 0 ∨ a = 1 by omega) with rfl | rfl <;> omega
theorem run_quo_nan (t : TypeId) (x y : Nat) (w : World) (h : floatBits .quo .f64 x y = none) : (binOp .quo t (.float .f64 x) (.float .f64 y)).run Tryd.prog w = .ok (.float .f64 (nanOf w x y)) w.drew := by
  unfold floatBits at h
  simp only at h
  simp [binOp, Op.floatArith, h, nanOf, Question.forced]
theorem below_drew {B : Nat} {w0 w : World} (h : Below B w0 w) : Below B w0 w.drew := below_drewN h 1

set_option maxHeartbeats 400000 in
theorem share_any (a b : Int) (w : World) : Calls Tryd.prog 20 #[.int .i64 a, .int .i64 b] w fun e w' => (∃ r, e = .returned (.float .f64 r) ∧ QU (FI a) (FI b) r) ∧ Below w.heap.size w w' := by
  cases h : floatBits .quo .f64 (FI a) (FI b) with
  | some r =>
    have q0 := fun w => run_quo64 22 (FI a) (FI b) r w h
    unfold FI at q0
    have HH := Lib.hid h
    clear h
    go_enter Tryd.func20, Tryd.ntmps20
    go_wp2
    go_ret
    have hlt : r < 18446744073709551616 := by have := floatBits_wf HH.out; simpa [Lit.wf] using this
    exact ⟨⟨_, rfl, hlt, .inl HH.out⟩, Below.refl _ _⟩
  | none =>
    have q0 := fun w => run_quo_nan 22 (FI a) (FI b) w h
    unfold FI at q0
    have HH := Lib.hid h
    clear h
    go_enter Tryd.func20, Tryd.ntmps20
    go_wp2
    go_ret
    exact ⟨⟨_, rfl, (nanOf_isn _ _ _).2, .inr ⟨HH.out, (nanOf_isn _ _ _).1⟩⟩, below_drew (Below.refl _ _)⟩

theorem inf_any (w : World) : Calls Tryd.prog 18 #[.int .i64 1] w fun e w' => e = .returned (.float .f64 PINF) ∧ w' = w := by
  go_enter Tryd.func18, Tryd.ntmps18
  go_wp2
  go_ret
  exact ⟨rfl, rfl⟩
theorem nan_any (w : World) : Calls Tryd.prog 23 #[] w fun e w' => e = .returned (.float .f64 9221120237041090561) ∧ w' = w := by
  go_enter Tryd.func23, Tryd.ntmps23
  go_wp2
  go_ret
  exact ⟨rfl, rfl⟩
def infB (x : Nat) : Bool := F64.order x MAXF == some .gt
theorem isInf_any (x : Nat) (w : World) : Calls Tryd.prog 11 #[.float .f64 x, .int .i64 1] w fun e w' => e = .returned (.bool (infB x)) ∧ w' = w := by
  obtain ⟨b, hb⟩ : ∃ b, infB x = b := ⟨_, rfl⟩
  rw [hb]
  unfold infB MAXF at hb
  go_enter Tryd.func11, Tryd.ntmps11
  go_wp2
  go_ret
  exact ⟨rfl, rfl⟩

/-- How many bytes a way takes; -1: it can't; -2: there is no such way. -/
def nbB (way : Int) (l : List UInt8) : Int :=
  if way = 1 then (if txtB l then l.length else -1) else if way = 2 then (restL l).length else if way = 3 then (if l.length ≤ 256 then (escL l).length else -1) else -2
def CostR (way : Int) (l : List UInt8) (r : Nat) : Prop :=
  r < 18446744073709551616 ∧ ((nbB way l = -2 ∧ isn r = true) ∨ (nbB way l = -1 ∧ r = PINF) ∨ (0 ≤ nbB way l ∧ QU (FI (nbB way l)) (FI l.length) r))
theorem CostR.rank {way : Int} {l : List UInt8} {r s : Nat} (h1 : CostR way l r) (h2 : CostR way l s) : rankN r = rankN s := by
  rcases h1.2 with ⟨e1, n1⟩ | ⟨e1, n1⟩ | ⟨e1, n1⟩ <;> rcases h2.2 with ⟨e2, n2⟩ | ⟨e2, n2⟩ | ⟨e2, n2⟩ <;> try omega
  · unfold rankN; simp only [n1, n2, if_true]
  · rw [n1, n2]
  · exact n1.rank n2

set_option maxHeartbeats 800000 in
theorem cost_any (way : Int) (s : ByteArray) (w : World) (hs : s.size ≤ 2000) :
    Calls Tryd.prog 14 #[.int .i64 way, .string s] w fun e w' => (∃ r, e = .returned (.float .f64 r) ∧ CostR way (L s) r) ∧ Below w.heap.size w w' := by
  have hls : (L s).length = s.size := rfl
  have CI := Lib.hid inf_any
  unfold PINF at CI
  by_cases h1 : way = 1
  · subst h1
    have CT := Lib.hid (fun W => text_any s W (by unfold maxLen; omega))
    have hn : nbB 1 (L s) = if txtB (L s) then ((L s).length : Int) else -1 := rfl
    obtain ⟨t, ht⟩ : ∃ t, txtB (L s) = t := ⟨_, rfl⟩
    rw [ht] at CT hn
    have HN := Lib.hid hn
    have CS := Lib.hid (fun W => share_any (s.size : Int) (s.size : Int) W)
    clear hn ht
    go_enter Tryd.func14, Tryd.ntmps14
    go_wp2_with fail
    refine (CI.out _).mono ?_
    rintro e w0 ⟨rfl, h0⟩
    have H0 := Lib.hid h0
    clear h0
    go_wp2_with fail
    refine (CT.out _).mono ?_
    rintro e w1 ⟨rfl, hb1⟩
    have HB1 := Lib.hid hb1
    rw [H0.out] at HB1
    clear hb1
    cases t
    · go_wp2_with fail
      go_ret
      exact ⟨⟨_, rfl, by decide, .inr (.inl ⟨HN.out, rfl⟩)⟩, HB1.out⟩
    · go_wp2_with fail
      refine (CS.out _).mono ?_
      rintro e w2 ⟨⟨r, rfl, hq⟩, hb2⟩
      have HQ := Lib.hid hq
      have HB2 := Lib.hid (HB1.out.trans (hb2.mono HB1.out.size))
      clear hq hb2
      go_wp2_with fail
      go_ret
      exact ⟨⟨_, rfl, HQ.out.1, .inr (.inr ⟨by rw [HN.out]; simp, by rw [HN.out]; exact HQ.out⟩)⟩, HB2.out⟩
  · by_cases h2 : way = 2
    · subst h2
      have hn : nbB 2 (L s) = ((encLen s.size : Nat) : Int) := by
        rw [← hls, ← restL_length (L s).length (L s) (Nat.le_refl _)]; rfl
      have HN := Lib.hid hn
      have CE := Lib.hid (fun W => encoded_any s.size W (by omega))
      have CS := Lib.hid (fun W => share_any ((encLen s.size : Nat) : Int) (s.size : Int) W)
      clear hn
      go_enter Tryd.func14, Tryd.ntmps14
      go_wp2_with fail
      refine (CI.out _).mono ?_
      rintro e w0 ⟨rfl, h0⟩
      have H0 := Lib.hid h0
      clear h0
      go_wp2_with fail
      refine (CE.out _).mono ?_
      rintro e w1 ⟨rfl, hb1⟩
      have HB1 : Hid (Below w.heap.size w w1) := Lib.hid (by rw [← hb1, H0.out]; exact Below.refl _ _)
      clear hb1
      go_wp2_with fail
      refine (CS.out _).mono ?_
      rintro e w2 ⟨⟨r, rfl, hq⟩, hb2⟩
      have HQ := Lib.hid hq
      have HB2 := Lib.hid (HB1.out.trans (hb2.mono HB1.out.size))
      clear hq hb2
      go_wp2_with fail
      go_ret
      exact ⟨⟨_, rfl, HQ.out.1, .inr (.inr ⟨by rw [HN.out]; omega, by rw [HN.out]; exact HQ.out⟩)⟩, HB2.out⟩
    · by_cases h3 : way = 3
      · subst h3
        by_cases hl : s.size ≤ 256
        · have hn : nbB 3 (L s) = ((escL (L s)).length : Nat) := if_pos hl
          have HN := Lib.hid hn
          have CE := Lib.hid (fun W => escaped_any s W (by omega))
          have CS := Lib.hid (fun W => share_any (((escL (L s)).length : Nat) : Int) (s.size : Int) W)
          clear hn
          go_enter Tryd.func14, Tryd.ntmps14
          go_wp2_with fail
          refine (CI.out _).mono ?_
          rintro e w0 ⟨rfl, h0⟩
          have H0 := Lib.hid h0
          clear h0
          go_wp2_with fail
          refine (CE.out _).mono ?_
          rintro e w1 ⟨rfl, hb1⟩
          have HB1 := Lib.hid hb1
          rw [H0.out] at HB1
          clear hb1
          go_wp2_with fail
          refine (CS.out _).mono ?_
          rintro e w2 ⟨⟨r, rfl, hq⟩, hb2⟩
          have HQ := Lib.hid hq
          have HB2 := Lib.hid (HB1.out.trans (hb2.mono HB1.out.size))
          clear hq hb2
          go_wp2_with fail
          go_ret
          exact ⟨⟨_, rfl, HQ.out.1, .inr (.inr ⟨by rw [HN.out]; omega, by rw [HN.out]; exact HQ.out⟩)⟩, HB2.out⟩
        · have hn : nbB 3 (L s) = -1 := if_neg hl
          have HN := Lib.hid hn
          clear hn
          go_enter Tryd.func14, Tryd.ntmps14
          go_wp2_with fail
          refine (CI.out _).mono ?_
          rintro e w0 ⟨rfl, h0⟩
          have H0 := Lib.hid h0
          clear h0
          go_wp2_with fail
          go_ret
          exact ⟨⟨_, rfl, by decide, .inr (.inl ⟨HN.out, rfl⟩)⟩, by rw [H0.out]; exact Below.refl _ _⟩
      · have hn : nbB way (L s) = -2 := by unfold nbB; rw [if_neg h1, if_neg h2, if_neg h3]
        have HN := Lib.hid hn
        have CN := Lib.hid nan_any
        clear hn
        go_enter Tryd.func14, Tryd.ntmps14
        go_wp2_with fail
        refine (CI.out _).mono ?_
        rintro e w0 ⟨rfl, h0⟩
        have H0 := Lib.hid h0
        clear h0
        go_wp2_with fail
        refine (CN.out _).mono ?_
        rintro e w1 ⟨rfl, h01⟩
        have H01 := Lib.hid h01
        clear h01
        go_wp2_with fail
        go_ret
        exact ⟨⟨_, rfl, by decide, .inl ⟨HN.out, by decide⟩⟩, by rw [H01.out, H0.out]; exact Below.refl _ _⟩

theorem quo00 : floatBits .quo .f64 0 0 = none := by kernel_rfl
theorem quo10 : floatBits .quo .f64 ONE 0 = some PINF := by kernel_rfl

end Go.Proofs.YtnofoenkeoabpaaDoor
