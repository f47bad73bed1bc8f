/-
  The walks of number and sign.
-/
import Derived.Test.YtpgneaekflhgnaaDoorA6
import Derived.Test.YtpgneaekflhgnaaDoorA2
import Derived.Test.YtpgneaekflhgnaaDoorA3
import Derived.Lib.ItoaLen
import Derived.Deep.RegionHeld3
namespace Go.Proofs.YtpgneaekflhgnaaDoor
open Go.RowKit

set_option maxHeartbeats 1000000 in
set_option maxRecDepth 100000 in
theorem number_any {w : World} {g : Nat} {s : ByteArray} {n : Nat} {r : List UInt8} {lf : Int} {vv : Value} {q : Int} (k : SR w g s (Lib.decDigits n ++ r) lf vv q) (hs : s.size ≤ 1000000) (hn : n < 9223372036854775808) (hr : (Lib.decDigits n ++ r).takeWhile letB = Lib.decDigits n) :
    Calls Tryd.prog 76 #[.pointer (some ⟨g, 0, none⟩)] w fun e w' => e = .returned (.int .i64 (n : Int)) ∧ SR w' g s (skipB r) lf vv q ∧ But g g w w' := by
  obtain ⟨p, hp, hl, hsb⟩ := k
  obtain ⟨m, hm⟩ : ∃ m, m = (Lib.decDigits n).length := ⟨_, rfl⟩
  have hm20 : m ≤ 20 := by rw [hm, Lib.decDigits_length]; exact Lib.nDigits_le20 n (by omega)
  have hlen : (Lib.decDigits n ++ r).length = s.size - p := by rw [← hl, List.length_drop, L_size]
  rw [List.length_append, ← hm] at hlen
  have hpm : p + m ≤ s.size := by omega
  have hat : ∀ j, p + j < s.size → (L s).getD (p + j) 0 = (Lib.decDigits n ++ r).getD j 0 := fun j hj => by
    rw [← hl, List.getD_eq_getElem?_getD, List.getD_eq_getElem?_getD, List.getElem?_drop]
  have hlet : ∀ j, j < m → letB ((Lib.decDigits n ++ r).getD j 0) = true := fun j hj => by
    rw [List.getD_eq_getElem?_getD, List.getElem?_append_left (by omega), List.getElem?_eq_getElem (by omega)]
    exact dig_let (dec_dig n _ (List.getElem_mem _))
  have hoff : p + m < s.size → letB ((Lib.decDigits n ++ r).getD m 0) = false := fun h => by
    cases hrr : r with
    | nil => rw [hrr, List.length_nil] at hlen; omega
    | cons c t =>
      rw [hrr] at hr
      rw [List.getD_eq_getElem?_getD, List.getElem?_append_right (by omega), ← hm, Nat.sub_self]
      show letB c = false
      cases hc : letB c with
      | false => rfl
      | true =>
        exfalso
        have e : ∀ (a b : List UInt8), (∀ x ∈ a, letB x = true) → (a ++ b).takeWhile letB = a ++ b.takeWhile letB := by
          intro a
          induction a with
          | nil => intro b _; rfl
          | cons x a ih =>
            intro b ha
            rw [List.cons_append, List.takeWhile_cons, if_pos (ha x (by simp)), ih b fun y hy => ha y (by simp [hy])]; rfl
        rw [e _ _ (fun x hx => dig_let (dec_dig n x hx)), List.takeWhile_cons, if_pos hc] at hr
        have := congrArg List.length hr
        rw [List.length_append, List.length_cons] at this
        omega
  have hxe : s.extract p (p + m) = S (Lib.decDigits n) := by
    rw [S_extract, hl, Nat.add_sub_cancel_left, hm, List.take_left']
    rfl
  have hsl := fun (W : World) (i : Int) (hi : i = ((p + m : Nat) : Int)) => run_sl (P := Tryd.prog) Tryd.underlying9 s (p : Int) i p (p + m) rfl hi (by omega) (by omega) W
  rw [hxe] at hsl
  obtain ⟨ds, hds⟩ : ∃ ds, ds = S (Lib.decDigits n) := ⟨_, rfl⟩
  rw [← hds] at hsl
  have hdsz : ds.size ≤ 1000 := by rw [hds, S_size, ← hm]; omega
  have CR : Hid (∀ W, Calls Tryd.prog 11 #[.string ds] W fun e w' => e = .returned (.tuple #[.int .i64 (n : Int), .bool true]) ∧ Below W.heap.size W w') := Lib.hid fun W => by
    have e : readL (L ds) = some n := by rw [hds, L_S]; exact readL_dec n hn
    have h := read_any ds W hdsz (fun h => by rw [e] at h; exact absurd h (by simp))
    rw [e] at h
    exact h
  have y0 := hsb.c0
  have y1 := hsb.c1
  have HSB := Lib.hid hsb
  have HS := Lib.hid hs
  have HAT := Lib.hid hat
  have HLET := Lib.hid hlet
  have HOFF := Lib.hid hoff
  have HL := Lib.hid hl
  have HM := Lib.hid hm
  have hbs := hsb.lt
  clear hsb hs hat hlet hoff hl hds hdsz hxe hr hn hlen hm
  go_enter Tryd.func76, Tryd.ntmps76
  go_wp2_with fail
  go_loop [3] (fun i => ∃ j : Nat, i = .int .i64 ((p + j : Nat) : Int) ∧ j ≤ m) (fun i => s.size + 1 - (intOf i).toNat)
  case atStart => exact ⟨0, rfl, Nat.zero_le _⟩
  case round =>
    obtain ⟨j, rfl, hj⟩ := hrel
    have hs1 := HS.out
    obtain ⟨i, hi⟩ : ∃ i, i = p + j := ⟨_, rfl⟩
    rw [← hi]
    have hw1 : wrap64 ((i : Int) + 1) = ((i + 1 : Nat) : Int) := by rw [wrap_id ⟨by omega, by omega⟩]; omega
    by_cases hjm : j < m
    · have his : i < s.size := by omega
      have ix := fun W => run_idx (P := Tryd.prog) Tryd.underlying9 s (k := .i64) (i : Int) i rfl his W
      have h1 := HAT.out j (by omega)
      have h2 := HLET.out j hjm
      rw [← h1, ← hi] at h2
      generalize (L s).getD i 0 = c at ix h2
      have C1 : Hid (∀ W, Calls Tryd.prog 26 #[.int .u8 (c.toNat : Int)] W fun e w' => e = .returned (.bool true) ∧ W = w') := Lib.hid fun W => by rw [← h2]; exact aletter_any c W
      have HI := Lib.hid hi
      clear h1 h2 hi
      go_wp2_with fail
      refine (C1.out _).mono ?_
      rintro e w' ⟨rfl, rfl⟩
      go_wp2_with fail
      go_round
      case rel => exact ⟨j + 1, by rw [show p + (j + 1) = i + 1 by have := HI.out; omega]; go_num, by omega⟩
      case measure => simp [intOf]; omega
    · have hjm2 : j = m := by omega
      subst hjm2
      have HIP : Hid (i ≤ s.size) := Lib.hid (by omega)
      have HRR : Hid ((L s).drop i = r) := Lib.hid (by rw [hi, ← List.drop_drop, HL.out, HM.out, List.drop_left])
      have hsl2 := fun W => hsl W (i : Int) (by rw [hi])
      have hsle := hsl2
      clear hsl
      by_cases his : i < s.size
      · have ix := fun W => run_idx (P := Tryd.prog) Tryd.underlying9 s (k := .i64) (i : Int) i rfl his W
        have h1 := HAT.out j (by omega)
        have h2 := HOFF.out (by omega)
        rw [← h1, ← hi] at h2
        generalize (L s).getD i 0 = c at ix h2
        have C1 : Hid (∀ W, Calls Tryd.prog 26 #[.int .u8 (c.toNat : Int)] W fun e w' => e = .returned (.bool false) ∧ W = w') := Lib.hid fun W => by rw [← h2]; exact aletter_any c W
        have HI := Lib.hid hi
        clear h1 h2 hi
        go_wp2_with fail
        refine (C1.out _).mono ?_
        rintro e w' ⟨rfl, rfl⟩
        go_wp2_with fail
        go_region_held3 (fun W => W.cell? ⟨g, 0, none⟩ = some (.string s) ∧ W.cell? ⟨g, 1, none⟩ = some (.int .i64 (p : Int))) (first | exact ⟨d0, d1⟩ | exact ⟨y0, y1⟩ | go_keep) ((go_at_call 11; (with_reducible refine (CR.out _).mono ?_); rintro e w1 ⟨rfl, hb1⟩; have d0 := (hb1.cell (p := ⟨g, 0, none⟩) hbs).trans y0; have d1 := (hb1.cell (p := ⟨g, 1, none⟩) hbs).trans y1))
        all_goals
          have hb2 : Below w.heap.size w w1 := by first | exact hb1 | exact (Below.drew (Below.refl _ _)).trans hb1
          have HP : Hid (SB (w1.setCell ⟨g, 1, none⟩ (.int .i64 (i : Int))) g s i lf vv q ∧ But g g w (w1.setCell ⟨g, 1, none⟩ (.int .i64 (i : Int)))) := Lib.hid ⟨(HSB.out.below hb2).put1 i, (But.of_below hb2).setG 1 _⟩
          have d2 := (HSB.out.below hb2).z1
          clear hb1 hb2 y0 y1
          go_wp2_with fail
          refine (blanks_any HP.out.1 HIP.out HS.out).mono ?_
          rintro e w5 ⟨rfl, p5, hp5, hd5, hsb5, hb5⟩
          have HF : Hid (SR w5 g s (skipB r) lf vv q ∧ But g g w w5) := Lib.hid ⟨⟨p5, hp5, by rw [hd5, HRR.out], hsb5⟩, HP.out.2.trans hb5⟩
          clear hd5 hsb5 hb5
          go_wp2_with fail
          go_ret
          exact ⟨rfl, HF.out⟩
      · have HI := Lib.hid hi
        clear hi
        go_wp2_with fail
        go_region_held3 (fun W => W.cell? ⟨g, 0, none⟩ = some (.string s) ∧ W.cell? ⟨g, 1, none⟩ = some (.int .i64 (p : Int))) (first | exact ⟨d0, d1⟩ | exact ⟨y0, y1⟩ | go_keep) ((go_at_call 11; (with_reducible refine (CR.out _).mono ?_); rintro e w1 ⟨rfl, hb1⟩; have d0 := (hb1.cell (p := ⟨g, 0, none⟩) hbs).trans y0; have d1 := (hb1.cell (p := ⟨g, 1, none⟩) hbs).trans y1))
        all_goals
          have hb2 : Below w.heap.size w w1 := by first | exact hb1 | exact (Below.drew (Below.refl _ _)).trans hb1
          have HP : Hid (SB (w1.setCell ⟨g, 1, none⟩ (.int .i64 (i : Int))) g s i lf vv q ∧ But g g w (w1.setCell ⟨g, 1, none⟩ (.int .i64 (i : Int)))) := Lib.hid ⟨(HSB.out.below hb2).put1 i, (But.of_below hb2).setG 1 _⟩
          have d2 := (HSB.out.below hb2).z1
          clear hb1 hb2 y0 y1
          go_wp2_with fail
          refine (blanks_any HP.out.1 HIP.out HS.out).mono ?_
          rintro e w5 ⟨rfl, p5, hp5, hd5, hsb5, hb5⟩
          have HF : Hid (SR w5 g s (skipB r) lf vv q ∧ But g g w w5) := Lib.hid ⟨⟨p5, hp5, by rw [hd5, HRR.out], hsb5⟩, HP.out.2.trans hb5⟩
          clear hd5 hsb5 hb5
          go_wp2_with fail
          go_ret
          exact ⟨rfl, HF.out⟩
end Go.Proofs.YtpgneaekflhgnaaDoor
