/-
  GainOrders: the walk.
-/
import Derived.Test.YtdffeaolooojgaaE11
namespace Go.Proofs.Ytdffeaolooojgaa
open Go.RowKit

set_option maxHeartbeats 1600000 in
theorem orders_any (x y z : Nat) (a : Option Addr) (n cap : Nat) (rs : List Nat) (w : World) (h : Elems w w.heap.size a n (rs.map flo)) (hr : ∀ r ∈ rs, r < 18446744073709551616)
    (hx : x < 18446744073709551616) (hy : y < 18446744073709551616) (hz : z < 18446744073709551616) :
    Calls Try.prog 3 #[.float .f64 x, .float .f64 y, .float .f64 z, .slice a n cap] w fun e w' => e = .returned (.bool true) ∧ Below w.heap.size w w' := by
  have hE := Lib.hid h
  have C1 : Hid (∀ W, Calls Try.prog 8 #[.float .f64 x, .float .f64 y] W fun e w' => e = .returned (.bool (lessN x y)) ∧ w' = W) := Lib.hid (less_any x y hx hy)
  have C2 := Lib.hid (less_any y x hy hx)
  have C3 := Lib.hid (less_any y z hy hz)
  have C4 := Lib.hid (less_any x z hx hz)
  have C5 := Lib.hid (rless_any x y hx hy)
  have tr : (lessN x y = true → lessN y x = false) ∧ (lessN x y = true → lessN y z = true → lessN x z = true) := by
    unfold lessN
    simp only [decide_eq_true_eq, decide_eq_false_iff_not]
    omega
  obtain ⟨p, hp⟩ : ∃ p, lessN x y = p := ⟨_, rfl⟩
  obtain ⟨q, hq⟩ : ∃ p, lessN y x = p := ⟨_, rfl⟩
  obtain ⟨r, hrr⟩ : ∃ p, lessN y z = p := ⟨_, rfl⟩
  obtain ⟨t, ht⟩ : ∃ p, lessN x z = p := ⟨_, rfl⟩
  rw [hp] at C1 C5 tr
  rw [hq] at C2 tr
  rw [hrr] at C3 tr
  rw [ht] at C4 tr
  have CL := Lib.hid (fun W hb => least_any a n cap rs W (((h.below (w' := W) hb).mono hb.size)) hr)
  have CR := Lib.hid (fun W hb => rleast_any a n cap rs W (((h.below (w' := W) hb).mono hb.size)) hr)
  have CA := Lib.hid (anchor_any w)
  clear h hr hx hy hz hp hq hrr ht
  obtain ⟨t1, t2⟩ := tr
  cases p
  · clear t1 t2
    go_enter Try.func3, Try.ntmps3
    go_wp2_with fail
    refine CA.out.mono ?_
    rintro e w1 ⟨rfl, hb1⟩
    have HB1 := Lib.hid hb1
    clear hb1
    by_cases hn : n ≤ 100
    · go_wp2_with (first | (go_at_call 8; first | (with_reducible refine (C1.out _).mono ?_; rintro e W ⟨rfl, rfl⟩) | (with_reducible refine (C2.out _).mono ?_; rintro e W ⟨rfl, rfl⟩) | (with_reducible refine (C3.out _).mono ?_; rintro e W ⟨rfl, rfl⟩) | (with_reducible refine (C4.out _).mono ?_; rintro e W ⟨rfl, rfl⟩)) | (go_at_call 9; with_reducible refine (C5.out _).mono ?_; rintro e W ⟨rfl, rfl⟩))
      refine (CL.out _ HB1.out).mono ?_
      rintro e W ⟨⟨i, rfl, hi⟩, rfl⟩
      have HI := Lib.hid hi
      clear hi
      go_wp2_with fail
      refine (CR.out _ HB1.out).mono ?_
      rintro e w2 ⟨⟨j, rfl, hj⟩, hb2⟩
      obtain rfl := HI.out.unique hj
      have HB2 := Lib.hid (HB1.out.trans (hb2.mono HB1.out.size))
      clear hb2 hj
      go_wp2_with fail
      go_ret
      exact ⟨ret_bool (by simp), HB2.out⟩
    · go_wp2_with fail
      go_ret
      exact ⟨rfl, HB1.out⟩
  · cases q
    · cases r
      · clear t1 t2
        go_enter Try.func3, Try.ntmps3
        go_wp2_with fail
        refine CA.out.mono ?_
        rintro e w1 ⟨rfl, hb1⟩
        have HB1 := Lib.hid hb1
        clear hb1
        by_cases hn : n ≤ 100
        · go_wp2_with (first | (go_at_call 8; first | (with_reducible refine (C1.out _).mono ?_; rintro e W ⟨rfl, rfl⟩) | (with_reducible refine (C2.out _).mono ?_; rintro e W ⟨rfl, rfl⟩) | (with_reducible refine (C3.out _).mono ?_; rintro e W ⟨rfl, rfl⟩) | (with_reducible refine (C4.out _).mono ?_; rintro e W ⟨rfl, rfl⟩)) | (go_at_call 9; with_reducible refine (C5.out _).mono ?_; rintro e W ⟨rfl, rfl⟩))
          refine (CL.out _ HB1.out).mono ?_
          rintro e W ⟨⟨i, rfl, hi⟩, rfl⟩
          have HI := Lib.hid hi
          clear hi
          go_wp2_with fail
          refine (CR.out _ HB1.out).mono ?_
          rintro e w2 ⟨⟨j, rfl, hj⟩, hb2⟩
          obtain rfl := HI.out.unique hj
          have HB2 := Lib.hid (HB1.out.trans (hb2.mono HB1.out.size))
          clear hb2 hj
          go_wp2_with fail
          go_ret
          exact ⟨ret_bool (by simp), HB2.out⟩
        · go_wp2_with fail
          go_ret
          exact ⟨rfl, HB1.out⟩
      · cases t
        · exact absurd (t2 rfl rfl) (by decide)
        · clear t1 t2
          go_enter Try.func3, Try.ntmps3
          go_wp2_with fail
          refine CA.out.mono ?_
          rintro e w1 ⟨rfl, hb1⟩
          have HB1 := Lib.hid hb1
          clear hb1
          by_cases hn : n ≤ 100
          · go_wp2_with (first | (go_at_call 8; first | (with_reducible refine (C1.out _).mono ?_; rintro e W ⟨rfl, rfl⟩) | (with_reducible refine (C2.out _).mono ?_; rintro e W ⟨rfl, rfl⟩) | (with_reducible refine (C3.out _).mono ?_; rintro e W ⟨rfl, rfl⟩) | (with_reducible refine (C4.out _).mono ?_; rintro e W ⟨rfl, rfl⟩)) | (go_at_call 9; with_reducible refine (C5.out _).mono ?_; rintro e W ⟨rfl, rfl⟩))
            refine (CL.out _ HB1.out).mono ?_
            rintro e W ⟨⟨i, rfl, hi⟩, rfl⟩
            have HI := Lib.hid hi
            clear hi
            go_wp2_with fail
            refine (CR.out _ HB1.out).mono ?_
            rintro e w2 ⟨⟨j, rfl, hj⟩, hb2⟩
            obtain rfl := HI.out.unique hj
            have HB2 := Lib.hid (HB1.out.trans (hb2.mono HB1.out.size))
            clear hb2 hj
            go_wp2_with fail
            go_ret
            exact ⟨ret_bool (by simp), HB2.out⟩
          · go_wp2_with fail
            go_ret
            exact ⟨rfl, HB1.out⟩
    · exact absurd (t1 rfl) (by decide)
end Go.Proofs.Ytdffeaolooojgaa
