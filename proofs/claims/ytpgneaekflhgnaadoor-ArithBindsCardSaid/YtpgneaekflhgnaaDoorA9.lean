/-
  The walk of sign.
-/
import Derived.Test.YtpgneaekflhgnaaDoorA8
namespace Go.Proofs.YtpgneaekflhgnaaDoor
open Go.RowKit

section
variable {W : World} {g : Nat} {s : ByteArray} {l : List UInt8} {lf : Int} {vv : Value} {q : Int}
theorem SR.alloc (h : SR W g s l lf vv q) (o : Obj) : SR (W.alloc o) g s l lf vv q := h.below (Below.alloc (Below.refl _ _) (Nat.le_refl _) o)
def sgnT (o : Nat) (l : List UInt8) : Bool := takeL (opB o) (butB o) l
def aftT (o : Nat) (l : List UInt8) : List UInt8 := if sgnT o l then skipB (l.drop (opB o).length) else l
/-- take of a sign, with no longer ones, one, two, laid anew. -/
theorem take_0 (k : SR W g s l lf vv q) (hs : s.size ≤ 1000000) {o : Nat} (hb : butB o = []) :
    Calls Tryd.prog 32 #[.pointer (some ⟨g, 0, none⟩), .string (S (opB o)), .slice none 0 0] W fun e w' => e = .returned (.bool (sgnT o l)) ∧ SR w' g s (aftT o l) lf vv q ∧ But g g W w' := by
  have h := take_any k hs (S (opB o)) none 0 0 [] ⟨rfl, Nat.zero_le _, .inl rfl⟩ (by simp)
  rw [aftT, sgnT, hb]
  exact h
theorem take_1 (k : SR W g s l lf vv q) (hs : s.size ≤ 1000000) {o : Nat} (x : ByteArray) (T : TypeId) (hb : butB o = [L x]) :
    Calls Tryd.prog 32 #[.pointer (some ⟨g, 0, none⟩), .string (S (opB o)), .slice (some ⟨W.heap.size, 0, none⟩) 1 1] (W.alloc (.cells #[.string x] T)) fun e w' => e = .returned (.bool (sgnT o l)) ∧ SR w' g s (aftT o l) lf vv q ∧ But g g W w' := by
  have h := take_any (k.alloc (.cells #[.string x] T)) hs (S (opB o)) (some ⟨W.heap.size, 0, none⟩) 1 _ [x] (elems_one W (.string x) T) (by simp)
  rw [aftT, sgnT, hb]
  exact h.mono fun e w' ⟨h1, h2, h3⟩ => ⟨h1, h2, ((But.refl g g W).alloc _).trans h3⟩
theorem elems_two (w : World) (u v : Value) (e : TypeId) : Elems (w.alloc (.cells #[u, v] e)) (w.alloc (.cells #[u, v] e)).heap.size (some ⟨w.heap.size, 0, none⟩) 2 [u, v] := by
  refine ⟨rfl, by unfold maxLen; omega, .inr ⟨_, _, rfl, by simp, fun i hi => ?_⟩⟩
  match i, hi with
  | 0, _ => simp
  | 1, _ => simp
theorem take_2 (k : SR W g s l lf vv q) (hs : s.size ≤ 1000000) {o : Nat} (x y : ByteArray) (T : TypeId) (hb : butB o = [L x, L y]) :
    Calls Tryd.prog 32 #[.pointer (some ⟨g, 0, none⟩), .string (S (opB o)), .slice (some ⟨W.heap.size, 0, none⟩) 2 2] (W.alloc (.cells #[.string x, .string y] T)) fun e w' => e = .returned (.bool (sgnT o l)) ∧ SR w' g s (aftT o l) lf vv q ∧ But g g W w' := by
  have h := take_any (k.alloc (.cells #[.string x, .string y] T)) hs (S (opB o)) (some ⟨W.heap.size, 0, none⟩) 2 _ [x, y] (elems_two W (.string x) (.string y) T) (by simp)
  rw [aftT, sgnT, hb]
  exact h.mono fun e w' ⟨h1, h2, h3⟩ => ⟨h1, h2, ((But.refl g g W).alloc _).trans h3⟩
end
theorem find_at {p : Nat → Bool} : ∀ (l : List Nat) (k : Nat), (∀ j, j < k → p (l.getD j 0) = false) → k < l.length → p (l.getD k 0) = true → l.find? p = some (l.getD k 0)
  | [], k, _, hk, _ => absurd hk (by simp)
  | x :: l, 0, _, _, h => by
    rw [List.find?_cons]
    have : p x = true := h
    rw [this]; rfl
  | x :: l, k + 1, hn, hk, h => by
    rw [List.find?_cons]
    have hx : p x = false := hn 0 (by omega)
    rw [hx]
    exact find_at l k (fun j hj => hn (j + 1) (by omega)) (by simpa using hk) h
theorem find_no {p : Nat → Bool} : ∀ (l : List Nat), (∀ j, j < l.length → p (l.getD j 0) = false) → l.find? p = none
  | [], _ => rfl
  | x :: l, hn => by
    rw [List.find?_cons]
    have hx : p x = false := hn 0 (by simp)
    rw [hx]
    exact find_no l fun j hj => hn (j + 1) (by simpa using hj)
/-- What sign gives: the sign, or nothing. -/
def sgnS (o : Option Nat) : ByteArray := match o with | some o => S (opB o) | none => ⟨#[]⟩
def sgnR (o : Option Nat) (l : List UInt8) : List UInt8 := match o with | some o => skipB (l.drop (opB o).length) | none => l
set_option maxHeartbeats 2000000 in
set_option maxRecDepth 100000 in
theorem sign_any {w : World} {g : Nat} {s : ByteArray} {l : List UInt8} {lf : Int} {vv : Value} {q : Int} (k : SR w g s l lf vv q) (hs : s.size ≤ 1000000) {n : Nat} (hn : n < 10) :
    Calls Tryd.prog 61 #[.pointer (some ⟨g, 0, none⟩), .int .i64 (n : Int)] w fun e w' => e = .returned (.string (sgnS (signL n l))) ∧ SR w' g s (sgnR (signL n l) l) lf vv q ∧ But g g w w' := by
  obtain ⟨ro, hro⟩ : ∃ ro, signL n l = ro := ⟨_, rfl⟩
  rw [hro]
  have HRO := Lib.hid hro
  have CL := Lib.hid (level_any hn w)
  have HK := Lib.hid k
  have HS := Lib.hid hs
  have HN := Lib.hid hn
  have hgw := k.lt
  obtain ⟨N, hNN⟩ : ∃ N, N = (levB n).length := ⟨_, rfl⟩
  rw [← hNN] at CL
  have HNN := Lib.hid hNN
  have hN4 : N ≤ 4 := by
    rw [hNN]
    rcases lev_cases hn with rfl | rfl | rfl | rfl | rfl | rfl | rfl | rfl | rfl | rfl <;> decide
  clear k hs hn hro hNN
  go_enter Tryd.func61, Tryd.ntmps61
  go_wp2_with fail
  refine CL.out.mono ?_
  rintro e w1 ⟨⟨be, rfl, hbe, hbe2, hce⟩, hb1⟩
  have hbeg : be ≠ g := by omega
  have HCE := Lib.hid hce
  have HK1 : Hid (SR w1 g s l lf vv q) := Lib.hid (HK.out.below hb1)
  have HB1 := Lib.hid hb1
  have HE2 := Lib.hid hbe2
  clear hce hb1 CL hbe
  go_wp2_with fail
  go_loopw [11] (fun i wr => ∃ k : Nat, k ≤ N ∧ i = .int .i64 k ∧ SR wr g s l lf vv q ∧ But g g w wr ∧ But g g w1 wr ∧ Hid (∀ j, j < k → sgnT ((levB n).getD j 0) l = false)) (fun i _ => N - (intOf i).toNat)
  case atStart => exact ⟨0, Nat.zero_le _, rfl, HK1.out, But.of_below HB1.out, But.refl g g w1, Lib.hid fun j hj => absurd hj (by omega)⟩
  case round =>
    obtain ⟨k, hk, rfl, hsr, hbt, hbt1, hno⟩ := hrel
    have HSR := Lib.hid hsr
    have HBT := Lib.hid hbt
    have HBT1 := Lib.hid hbt1
    by_cases hlt : k < N
    · have ho : (levB n).getD k 0 < 18 := by
        have hkl : k < (levB n).length := by rw [← HNN.out]; exact hlt
        have := List.all_eq_true.1 (levB_lt n HN.out) _ (List.getElem_mem hkl)
        rw [List.getD_eq_getElem?_getD, List.getElem?_eq_getElem hkl]
        simpa using this
      have d1 : wr.cell? ⟨be, k, none⟩ = some (.string (S (opB ((levB n).getD k 0)))) := by
        rw [World.cell?_of_block (hbt1.block be hbe2 hbeg hbeg)]
        exact HCE.out k hlt
      have HHIT : Hid (sgnT ((levB n).getD k 0) l = true → ro = some ((levB n).getD k 0)) := Lib.hid fun h => by
        rw [← HRO.out]
        exact find_at _ k hno.out (by rw [← HNN.out]; exact hlt) h
      have HMISS : Hid (sgnT ((levB n).getD k 0) l = false → ∀ j, j < k + 1 → sgnT ((levB n).getD j 0) l = false) := Lib.hid fun h j hj => by
        by_cases hjk : j < k
        · exact hno.out j hjk
        · obtain rfl : j = k := by omega
          exact h
      clear hno hsr hbt hbt1 hbe2
      generalize (levB n).getD k 0 = o at ho d1 HHIT HMISS
      obtain rfl | rfl | rfl | rfl | rfl | rfl | rfl | rfl | rfl | rfl | rfl | rfl | rfl | rfl | rfl | rfl | rfl | rfl : o = 0 ∨ o = 1 ∨ o = 2 ∨ o = 3 ∨ o = 4 ∨ o = 5 ∨ o = 6 ∨ o = 7 ∨ o = 8 ∨ o = 9 ∨ o = 10 ∨ o = 11 ∨ o = 12 ∨ o = 13 ∨ o = 14 ∨ o = 15 ∨ o = 16 ∨ o = 17 := by omega
      all_goals clear ho
      ·
        rw [sB0] at d1
        go_wp2_with fail
        refine Calls.mono ?_ (R := fun e w' => e = .returned (.bool (sgnT 0 l)) ∧ SR w' g s (aftT 0 l) lf vv q ∧ But g g wr w') ?_
        · exact take_0 HSR.out HS.out (o := 0) rfl
        · rintro e w2 ⟨rfl, hs2, hb2⟩
          cases hr : sgnT 0 l with
          | true =>
            have HF : Hid (ro = some 0 ∧ SR w2 g s (sgnR (some 0) l) lf vv q ∧ But g g w w2) := Lib.hid ⟨HHIT.out hr, by rw [aftT, hr, if_pos rfl] at hs2; exact hs2, HBT.out.trans hb2⟩
            clear hs2 hb2 hr
            go_wp2_with fail
            go_ret
            exact ⟨by rw [HF.out.1]; rfl, by rw [HF.out.1]; exact HF.out.2.1, HF.out.2.2⟩
          | false =>
            have HF : Hid (SR w2 g s l lf vv q ∧ But g g w w2 ∧ But g g w1 w2) := Lib.hid ⟨by rw [aftT, hr, if_neg Bool.false_ne_true] at hs2; exact hs2, HBT.out.trans hb2, HBT1.out.trans hb2⟩
            have HNX := Lib.hid (HMISS.out hr)
            clear hs2 hb2 hr
            go_wp2_with fail
            go_roundw
            case rel => exact ⟨k + 1, by omega, by go_num, HF.out.1, HF.out.2.1, HF.out.2.2, HNX⟩
            case measure => simp [intOf]; omega
      ·
        rw [sB1] at d1
        go_wp2_with fail
        refine Calls.mono ?_ (R := fun e w' => e = .returned (.bool (sgnT 1 l)) ∧ SR w' g s (aftT 1 l) lf vv q ∧ But g g wr w') ?_
        · exact take_0 HSR.out HS.out (o := 1) rfl
        · rintro e w2 ⟨rfl, hs2, hb2⟩
          cases hr : sgnT 1 l with
          | true =>
            have HF : Hid (ro = some 1 ∧ SR w2 g s (sgnR (some 1) l) lf vv q ∧ But g g w w2) := Lib.hid ⟨HHIT.out hr, by rw [aftT, hr, if_pos rfl] at hs2; exact hs2, HBT.out.trans hb2⟩
            clear hs2 hb2 hr
            go_wp2_with fail
            go_ret
            exact ⟨by rw [HF.out.1]; rfl, by rw [HF.out.1]; exact HF.out.2.1, HF.out.2.2⟩
          | false =>
            have HF : Hid (SR w2 g s l lf vv q ∧ But g g w w2 ∧ But g g w1 w2) := Lib.hid ⟨by rw [aftT, hr, if_neg Bool.false_ne_true] at hs2; exact hs2, HBT.out.trans hb2, HBT1.out.trans hb2⟩
            have HNX := Lib.hid (HMISS.out hr)
            clear hs2 hb2 hr
            go_wp2_with fail
            go_roundw
            case rel => exact ⟨k + 1, by omega, by go_num, HF.out.1, HF.out.2.1, HF.out.2.2, HNX⟩
            case measure => simp [intOf]; omega
      ·
        rw [sB2] at d1
        go_wp2_with fail
        refine Calls.mono ?_ (R := fun e w' => e = .returned (.bool (sgnT 2 l)) ∧ SR w' g s (aftT 2 l) lf vv q ∧ But g g wr w') ?_
        · exact take_2 HSR.out HS.out (o := 2) _ _ _ (by rw [L_append, L_append]; rfl)
        · rintro e w2 ⟨rfl, hs2, hb2⟩
          cases hr : sgnT 2 l with
          | true =>
            have HF : Hid (ro = some 2 ∧ SR w2 g s (sgnR (some 2) l) lf vv q ∧ But g g w w2) := Lib.hid ⟨HHIT.out hr, by rw [aftT, hr, if_pos rfl] at hs2; exact hs2, HBT.out.trans hb2⟩
            clear hs2 hb2 hr
            go_wp2_with fail
            go_ret
            exact ⟨by rw [HF.out.1]; rfl, by rw [HF.out.1]; exact HF.out.2.1, HF.out.2.2⟩
          | false =>
            have HF : Hid (SR w2 g s l lf vv q ∧ But g g w w2 ∧ But g g w1 w2) := Lib.hid ⟨by rw [aftT, hr, if_neg Bool.false_ne_true] at hs2; exact hs2, HBT.out.trans hb2, HBT1.out.trans hb2⟩
            have HNX := Lib.hid (HMISS.out hr)
            clear hs2 hb2 hr
            go_wp2_with fail
            go_roundw
            case rel => exact ⟨k + 1, by omega, by go_num, HF.out.1, HF.out.2.1, HF.out.2.2, HNX⟩
            case measure => simp [intOf]; omega
      ·
        rw [sB3] at d1
        go_wp2_with fail
        refine Calls.mono ?_ (R := fun e w' => e = .returned (.bool (sgnT 3 l)) ∧ SR w' g s (aftT 3 l) lf vv q ∧ But g g wr w') ?_
        · exact take_1 HSR.out HS.out (o := 3) _ _ (by rw [L_append]; rfl)
        · rintro e w2 ⟨rfl, hs2, hb2⟩
          cases hr : sgnT 3 l with
          | true =>
            have HF : Hid (ro = some 3 ∧ SR w2 g s (sgnR (some 3) l) lf vv q ∧ But g g w w2) := Lib.hid ⟨HHIT.out hr, by rw [aftT, hr, if_pos rfl] at hs2; exact hs2, HBT.out.trans hb2⟩
            clear hs2 hb2 hr
            go_wp2_with fail
            go_ret
            exact ⟨by rw [HF.out.1]; rfl, by rw [HF.out.1]; exact HF.out.2.1, HF.out.2.2⟩
          | false =>
            have HF : Hid (SR w2 g s l lf vv q ∧ But g g w w2 ∧ But g g w1 w2) := Lib.hid ⟨by rw [aftT, hr, if_neg Bool.false_ne_true] at hs2; exact hs2, HBT.out.trans hb2, HBT1.out.trans hb2⟩
            have HNX := Lib.hid (HMISS.out hr)
            clear hs2 hb2 hr
            go_wp2_with fail
            go_roundw
            case rel => exact ⟨k + 1, by omega, by go_num, HF.out.1, HF.out.2.1, HF.out.2.2, HNX⟩
            case measure => simp [intOf]; omega
      ·
        rw [sB4] at d1
        go_wp2_with fail
        refine Calls.mono ?_ (R := fun e w' => e = .returned (.bool (sgnT 4 l)) ∧ SR w' g s (aftT 4 l) lf vv q ∧ But g g wr w') ?_
        · exact take_2 HSR.out HS.out (o := 4) _ _ _ (by rw [L_append, L_append]; rfl)
        · rintro e w2 ⟨rfl, hs2, hb2⟩
          cases hr : sgnT 4 l with
          | true =>
            have HF : Hid (ro = some 4 ∧ SR w2 g s (sgnR (some 4) l) lf vv q ∧ But g g w w2) := Lib.hid ⟨HHIT.out hr, by rw [aftT, hr, if_pos rfl] at hs2; exact hs2, HBT.out.trans hb2⟩
            clear hs2 hb2 hr
            go_wp2_with fail
            go_ret
            exact ⟨by rw [HF.out.1]; rfl, by rw [HF.out.1]; exact HF.out.2.1, HF.out.2.2⟩
          | false =>
            have HF : Hid (SR w2 g s l lf vv q ∧ But g g w w2 ∧ But g g w1 w2) := Lib.hid ⟨by rw [aftT, hr, if_neg Bool.false_ne_true] at hs2; exact hs2, HBT.out.trans hb2, HBT1.out.trans hb2⟩
            have HNX := Lib.hid (HMISS.out hr)
            clear hs2 hb2 hr
            go_wp2_with fail
            go_roundw
            case rel => exact ⟨k + 1, by omega, by go_num, HF.out.1, HF.out.2.1, HF.out.2.2, HNX⟩
            case measure => simp [intOf]; omega
      ·
        rw [sB5] at d1
        go_wp2_with fail
        refine Calls.mono ?_ (R := fun e w' => e = .returned (.bool (sgnT 5 l)) ∧ SR w' g s (aftT 5 l) lf vv q ∧ But g g wr w') ?_
        · exact take_0 HSR.out HS.out (o := 5) rfl
        · rintro e w2 ⟨rfl, hs2, hb2⟩
          cases hr : sgnT 5 l with
          | true =>
            have HF : Hid (ro = some 5 ∧ SR w2 g s (sgnR (some 5) l) lf vv q ∧ But g g w w2) := Lib.hid ⟨HHIT.out hr, by rw [aftT, hr, if_pos rfl] at hs2; exact hs2, HBT.out.trans hb2⟩
            clear hs2 hb2 hr
            go_wp2_with fail
            go_ret
            exact ⟨by rw [HF.out.1]; rfl, by rw [HF.out.1]; exact HF.out.2.1, HF.out.2.2⟩
          | false =>
            have HF : Hid (SR w2 g s l lf vv q ∧ But g g w w2 ∧ But g g w1 w2) := Lib.hid ⟨by rw [aftT, hr, if_neg Bool.false_ne_true] at hs2; exact hs2, HBT.out.trans hb2, HBT1.out.trans hb2⟩
            have HNX := Lib.hid (HMISS.out hr)
            clear hs2 hb2 hr
            go_wp2_with fail
            go_roundw
            case rel => exact ⟨k + 1, by omega, by go_num, HF.out.1, HF.out.2.1, HF.out.2.2, HNX⟩
            case measure => simp [intOf]; omega
      ·
        rw [sB6] at d1
        go_wp2_with fail
        refine Calls.mono ?_ (R := fun e w' => e = .returned (.bool (sgnT 6 l)) ∧ SR w' g s (aftT 6 l) lf vv q ∧ But g g wr w') ?_
        · exact take_0 HSR.out HS.out (o := 6) rfl
        · rintro e w2 ⟨rfl, hs2, hb2⟩
          cases hr : sgnT 6 l with
          | true =>
            have HF : Hid (ro = some 6 ∧ SR w2 g s (sgnR (some 6) l) lf vv q ∧ But g g w w2) := Lib.hid ⟨HHIT.out hr, by rw [aftT, hr, if_pos rfl] at hs2; exact hs2, HBT.out.trans hb2⟩
            clear hs2 hb2 hr
            go_wp2_with fail
            go_ret
            exact ⟨by rw [HF.out.1]; rfl, by rw [HF.out.1]; exact HF.out.2.1, HF.out.2.2⟩
          | false =>
            have HF : Hid (SR w2 g s l lf vv q ∧ But g g w w2 ∧ But g g w1 w2) := Lib.hid ⟨by rw [aftT, hr, if_neg Bool.false_ne_true] at hs2; exact hs2, HBT.out.trans hb2, HBT1.out.trans hb2⟩
            have HNX := Lib.hid (HMISS.out hr)
            clear hs2 hb2 hr
            go_wp2_with fail
            go_roundw
            case rel => exact ⟨k + 1, by omega, by go_num, HF.out.1, HF.out.2.1, HF.out.2.2, HNX⟩
            case measure => simp [intOf]; omega
      ·
        rw [sB7] at d1
        go_wp2_with fail
        refine Calls.mono ?_ (R := fun e w' => e = .returned (.bool (sgnT 7 l)) ∧ SR w' g s (aftT 7 l) lf vv q ∧ But g g wr w') ?_
        · exact take_0 HSR.out HS.out (o := 7) rfl
        · rintro e w2 ⟨rfl, hs2, hb2⟩
          cases hr : sgnT 7 l with
          | true =>
            have HF : Hid (ro = some 7 ∧ SR w2 g s (sgnR (some 7) l) lf vv q ∧ But g g w w2) := Lib.hid ⟨HHIT.out hr, by rw [aftT, hr, if_pos rfl] at hs2; exact hs2, HBT.out.trans hb2⟩
            clear hs2 hb2 hr
            go_wp2_with fail
            go_ret
            exact ⟨by rw [HF.out.1]; rfl, by rw [HF.out.1]; exact HF.out.2.1, HF.out.2.2⟩
          | false =>
            have HF : Hid (SR w2 g s l lf vv q ∧ But g g w w2 ∧ But g g w1 w2) := Lib.hid ⟨by rw [aftT, hr, if_neg Bool.false_ne_true] at hs2; exact hs2, HBT.out.trans hb2, HBT1.out.trans hb2⟩
            have HNX := Lib.hid (HMISS.out hr)
            clear hs2 hb2 hr
            go_wp2_with fail
            go_roundw
            case rel => exact ⟨k + 1, by omega, by go_num, HF.out.1, HF.out.2.1, HF.out.2.2, HNX⟩
            case measure => simp [intOf]; omega
      ·
        rw [sB8] at d1
        go_wp2_with fail
        refine Calls.mono ?_ (R := fun e w' => e = .returned (.bool (sgnT 8 l)) ∧ SR w' g s (aftT 8 l) lf vv q ∧ But g g wr w') ?_
        · exact take_0 HSR.out HS.out (o := 8) rfl
        · rintro e w2 ⟨rfl, hs2, hb2⟩
          cases hr : sgnT 8 l with
          | true =>
            have HF : Hid (ro = some 8 ∧ SR w2 g s (sgnR (some 8) l) lf vv q ∧ But g g w w2) := Lib.hid ⟨HHIT.out hr, by rw [aftT, hr, if_pos rfl] at hs2; exact hs2, HBT.out.trans hb2⟩
            clear hs2 hb2 hr
            go_wp2_with fail
            go_ret
            exact ⟨by rw [HF.out.1]; rfl, by rw [HF.out.1]; exact HF.out.2.1, HF.out.2.2⟩
          | false =>
            have HF : Hid (SR w2 g s l lf vv q ∧ But g g w w2 ∧ But g g w1 w2) := Lib.hid ⟨by rw [aftT, hr, if_neg Bool.false_ne_true] at hs2; exact hs2, HBT.out.trans hb2, HBT1.out.trans hb2⟩
            have HNX := Lib.hid (HMISS.out hr)
            clear hs2 hb2 hr
            go_wp2_with fail
            go_roundw
            case rel => exact ⟨k + 1, by omega, by go_num, HF.out.1, HF.out.2.1, HF.out.2.2, HNX⟩
            case measure => simp [intOf]; omega
      ·
        rw [sB9] at d1
        go_wp2_with fail
        refine Calls.mono ?_ (R := fun e w' => e = .returned (.bool (sgnT 9 l)) ∧ SR w' g s (aftT 9 l) lf vv q ∧ But g g wr w') ?_
        · exact take_2 HSR.out HS.out (o := 9) _ _ _ (by rw [L_append, L_append]; rfl)
        · rintro e w2 ⟨rfl, hs2, hb2⟩
          cases hr : sgnT 9 l with
          | true =>
            have HF : Hid (ro = some 9 ∧ SR w2 g s (sgnR (some 9) l) lf vv q ∧ But g g w w2) := Lib.hid ⟨HHIT.out hr, by rw [aftT, hr, if_pos rfl] at hs2; exact hs2, HBT.out.trans hb2⟩
            clear hs2 hb2 hr
            go_wp2_with fail
            go_ret
            exact ⟨by rw [HF.out.1]; rfl, by rw [HF.out.1]; exact HF.out.2.1, HF.out.2.2⟩
          | false =>
            have HF : Hid (SR w2 g s l lf vv q ∧ But g g w w2 ∧ But g g w1 w2) := Lib.hid ⟨by rw [aftT, hr, if_neg Bool.false_ne_true] at hs2; exact hs2, HBT.out.trans hb2, HBT1.out.trans hb2⟩
            have HNX := Lib.hid (HMISS.out hr)
            clear hs2 hb2 hr
            go_wp2_with fail
            go_roundw
            case rel => exact ⟨k + 1, by omega, by go_num, HF.out.1, HF.out.2.1, HF.out.2.2, HNX⟩
            case measure => simp [intOf]; omega
      ·
        rw [sB10] at d1
        go_wp2_with fail
        refine Calls.mono ?_ (R := fun e w' => e = .returned (.bool (sgnT 10 l)) ∧ SR w' g s (aftT 10 l) lf vv q ∧ But g g wr w') ?_
        · exact take_2 HSR.out HS.out (o := 10) _ _ _ (by rw [L_append, L_append]; rfl)
        · rintro e w2 ⟨rfl, hs2, hb2⟩
          cases hr : sgnT 10 l with
          | true =>
            have HF : Hid (ro = some 10 ∧ SR w2 g s (sgnR (some 10) l) lf vv q ∧ But g g w w2) := Lib.hid ⟨HHIT.out hr, by rw [aftT, hr, if_pos rfl] at hs2; exact hs2, HBT.out.trans hb2⟩
            clear hs2 hb2 hr
            go_wp2_with fail
            go_ret
            exact ⟨by rw [HF.out.1]; rfl, by rw [HF.out.1]; exact HF.out.2.1, HF.out.2.2⟩
          | false =>
            have HF : Hid (SR w2 g s l lf vv q ∧ But g g w w2 ∧ But g g w1 w2) := Lib.hid ⟨by rw [aftT, hr, if_neg Bool.false_ne_true] at hs2; exact hs2, HBT.out.trans hb2, HBT1.out.trans hb2⟩
            have HNX := Lib.hid (HMISS.out hr)
            clear hs2 hb2 hr
            go_wp2_with fail
            go_roundw
            case rel => exact ⟨k + 1, by omega, by go_num, HF.out.1, HF.out.2.1, HF.out.2.2, HNX⟩
            case measure => simp [intOf]; omega
      ·
        rw [sB11] at d1
        go_wp2_with fail
        refine Calls.mono ?_ (R := fun e w' => e = .returned (.bool (sgnT 11 l)) ∧ SR w' g s (aftT 11 l) lf vv q ∧ But g g wr w') ?_
        · exact take_1 HSR.out HS.out (o := 11) _ _ (by rw [L_append]; rfl)
        · rintro e w2 ⟨rfl, hs2, hb2⟩
          cases hr : sgnT 11 l with
          | true =>
            have HF : Hid (ro = some 11 ∧ SR w2 g s (sgnR (some 11) l) lf vv q ∧ But g g w w2) := Lib.hid ⟨HHIT.out hr, by rw [aftT, hr, if_pos rfl] at hs2; exact hs2, HBT.out.trans hb2⟩
            clear hs2 hb2 hr
            go_wp2_with fail
            go_ret
            exact ⟨by rw [HF.out.1]; rfl, by rw [HF.out.1]; exact HF.out.2.1, HF.out.2.2⟩
          | false =>
            have HF : Hid (SR w2 g s l lf vv q ∧ But g g w w2 ∧ But g g w1 w2) := Lib.hid ⟨by rw [aftT, hr, if_neg Bool.false_ne_true] at hs2; exact hs2, HBT.out.trans hb2, HBT1.out.trans hb2⟩
            have HNX := Lib.hid (HMISS.out hr)
            clear hs2 hb2 hr
            go_wp2_with fail
            go_roundw
            case rel => exact ⟨k + 1, by omega, by go_num, HF.out.1, HF.out.2.1, HF.out.2.2, HNX⟩
            case measure => simp [intOf]; omega
      ·
        rw [sB12] at d1
        go_wp2_with fail
        refine Calls.mono ?_ (R := fun e w' => e = .returned (.bool (sgnT 12 l)) ∧ SR w' g s (aftT 12 l) lf vv q ∧ But g g wr w') ?_
        · exact take_1 HSR.out HS.out (o := 12) _ _ (by rw [L_append]; rfl)
        · rintro e w2 ⟨rfl, hs2, hb2⟩
          cases hr : sgnT 12 l with
          | true =>
            have HF : Hid (ro = some 12 ∧ SR w2 g s (sgnR (some 12) l) lf vv q ∧ But g g w w2) := Lib.hid ⟨HHIT.out hr, by rw [aftT, hr, if_pos rfl] at hs2; exact hs2, HBT.out.trans hb2⟩
            clear hs2 hb2 hr
            go_wp2_with fail
            go_ret
            exact ⟨by rw [HF.out.1]; rfl, by rw [HF.out.1]; exact HF.out.2.1, HF.out.2.2⟩
          | false =>
            have HF : Hid (SR w2 g s l lf vv q ∧ But g g w w2 ∧ But g g w1 w2) := Lib.hid ⟨by rw [aftT, hr, if_neg Bool.false_ne_true] at hs2; exact hs2, HBT.out.trans hb2, HBT1.out.trans hb2⟩
            have HNX := Lib.hid (HMISS.out hr)
            clear hs2 hb2 hr
            go_wp2_with fail
            go_roundw
            case rel => exact ⟨k + 1, by omega, by go_num, HF.out.1, HF.out.2.1, HF.out.2.2, HNX⟩
            case measure => simp [intOf]; omega
      ·
        rw [sB13] at d1
        go_wp2_with fail
        refine Calls.mono ?_ (R := fun e w' => e = .returned (.bool (sgnT 13 l)) ∧ SR w' g s (aftT 13 l) lf vv q ∧ But g g wr w') ?_
        · exact take_1 HSR.out HS.out (o := 13) _ _ (by rw [L_append]; rfl)
        · rintro e w2 ⟨rfl, hs2, hb2⟩
          cases hr : sgnT 13 l with
          | true =>
            have HF : Hid (ro = some 13 ∧ SR w2 g s (sgnR (some 13) l) lf vv q ∧ But g g w w2) := Lib.hid ⟨HHIT.out hr, by rw [aftT, hr, if_pos rfl] at hs2; exact hs2, HBT.out.trans hb2⟩
            clear hs2 hb2 hr
            go_wp2_with fail
            go_ret
            exact ⟨by rw [HF.out.1]; rfl, by rw [HF.out.1]; exact HF.out.2.1, HF.out.2.2⟩
          | false =>
            have HF : Hid (SR w2 g s l lf vv q ∧ But g g w w2 ∧ But g g w1 w2) := Lib.hid ⟨by rw [aftT, hr, if_neg Bool.false_ne_true] at hs2; exact hs2, HBT.out.trans hb2, HBT1.out.trans hb2⟩
            have HNX := Lib.hid (HMISS.out hr)
            clear hs2 hb2 hr
            go_wp2_with fail
            go_roundw
            case rel => exact ⟨k + 1, by omega, by go_num, HF.out.1, HF.out.2.1, HF.out.2.2, HNX⟩
            case measure => simp [intOf]; omega
      ·
        rw [sB14] at d1
        go_wp2_with fail
        refine Calls.mono ?_ (R := fun e w' => e = .returned (.bool (sgnT 14 l)) ∧ SR w' g s (aftT 14 l) lf vv q ∧ But g g wr w') ?_
        · exact take_1 HSR.out HS.out (o := 14) _ _ (by rw [L_append]; rfl)
        · rintro e w2 ⟨rfl, hs2, hb2⟩
          cases hr : sgnT 14 l with
          | true =>
            have HF : Hid (ro = some 14 ∧ SR w2 g s (sgnR (some 14) l) lf vv q ∧ But g g w w2) := Lib.hid ⟨HHIT.out hr, by rw [aftT, hr, if_pos rfl] at hs2; exact hs2, HBT.out.trans hb2⟩
            clear hs2 hb2 hr
            go_wp2_with fail
            go_ret
            exact ⟨by rw [HF.out.1]; rfl, by rw [HF.out.1]; exact HF.out.2.1, HF.out.2.2⟩
          | false =>
            have HF : Hid (SR w2 g s l lf vv q ∧ But g g w w2 ∧ But g g w1 w2) := Lib.hid ⟨by rw [aftT, hr, if_neg Bool.false_ne_true] at hs2; exact hs2, HBT.out.trans hb2, HBT1.out.trans hb2⟩
            have HNX := Lib.hid (HMISS.out hr)
            clear hs2 hb2 hr
            go_wp2_with fail
            go_roundw
            case rel => exact ⟨k + 1, by omega, by go_num, HF.out.1, HF.out.2.1, HF.out.2.2, HNX⟩
            case measure => simp [intOf]; omega
      ·
        rw [sB15] at d1
        go_wp2_with fail
        refine Calls.mono ?_ (R := fun e w' => e = .returned (.bool (sgnT 15 l)) ∧ SR w' g s (aftT 15 l) lf vv q ∧ But g g wr w') ?_
        · exact take_1 HSR.out HS.out (o := 15) _ _ (by rw [L_append]; rfl)
        · rintro e w2 ⟨rfl, hs2, hb2⟩
          cases hr : sgnT 15 l with
          | true =>
            have HF : Hid (ro = some 15 ∧ SR w2 g s (sgnR (some 15) l) lf vv q ∧ But g g w w2) := Lib.hid ⟨HHIT.out hr, by rw [aftT, hr, if_pos rfl] at hs2; exact hs2, HBT.out.trans hb2⟩
            clear hs2 hb2 hr
            go_wp2_with fail
            go_ret
            exact ⟨by rw [HF.out.1]; rfl, by rw [HF.out.1]; exact HF.out.2.1, HF.out.2.2⟩
          | false =>
            have HF : Hid (SR w2 g s l lf vv q ∧ But g g w w2 ∧ But g g w1 w2) := Lib.hid ⟨by rw [aftT, hr, if_neg Bool.false_ne_true] at hs2; exact hs2, HBT.out.trans hb2, HBT1.out.trans hb2⟩
            have HNX := Lib.hid (HMISS.out hr)
            clear hs2 hb2 hr
            go_wp2_with fail
            go_roundw
            case rel => exact ⟨k + 1, by omega, by go_num, HF.out.1, HF.out.2.1, HF.out.2.2, HNX⟩
            case measure => simp [intOf]; omega
      ·
        rw [sB16] at d1
        go_wp2_with fail
        refine Calls.mono ?_ (R := fun e w' => e = .returned (.bool (sgnT 16 l)) ∧ SR w' g s (aftT 16 l) lf vv q ∧ But g g wr w') ?_
        · exact take_1 HSR.out HS.out (o := 16) _ _ (by rw [L_append]; rfl)
        · rintro e w2 ⟨rfl, hs2, hb2⟩
          cases hr : sgnT 16 l with
          | true =>
            have HF : Hid (ro = some 16 ∧ SR w2 g s (sgnR (some 16) l) lf vv q ∧ But g g w w2) := Lib.hid ⟨HHIT.out hr, by rw [aftT, hr, if_pos rfl] at hs2; exact hs2, HBT.out.trans hb2⟩
            clear hs2 hb2 hr
            go_wp2_with fail
            go_ret
            exact ⟨by rw [HF.out.1]; rfl, by rw [HF.out.1]; exact HF.out.2.1, HF.out.2.2⟩
          | false =>
            have HF : Hid (SR w2 g s l lf vv q ∧ But g g w w2 ∧ But g g w1 w2) := Lib.hid ⟨by rw [aftT, hr, if_neg Bool.false_ne_true] at hs2; exact hs2, HBT.out.trans hb2, HBT1.out.trans hb2⟩
            have HNX := Lib.hid (HMISS.out hr)
            clear hs2 hb2 hr
            go_wp2_with fail
            go_roundw
            case rel => exact ⟨k + 1, by omega, by go_num, HF.out.1, HF.out.2.1, HF.out.2.2, HNX⟩
            case measure => simp [intOf]; omega
      ·
        rw [sB17] at d1
        go_wp2_with fail
        refine Calls.mono ?_ (R := fun e w' => e = .returned (.bool (sgnT 17 l)) ∧ SR w' g s (aftT 17 l) lf vv q ∧ But g g wr w') ?_
        · exact take_1 HSR.out HS.out (o := 17) _ _ (by rw [L_append]; rfl)
        · rintro e w2 ⟨rfl, hs2, hb2⟩
          cases hr : sgnT 17 l with
          | true =>
            have HF : Hid (ro = some 17 ∧ SR w2 g s (sgnR (some 17) l) lf vv q ∧ But g g w w2) := Lib.hid ⟨HHIT.out hr, by rw [aftT, hr, if_pos rfl] at hs2; exact hs2, HBT.out.trans hb2⟩
            clear hs2 hb2 hr
            go_wp2_with fail
            go_ret
            exact ⟨by rw [HF.out.1]; rfl, by rw [HF.out.1]; exact HF.out.2.1, HF.out.2.2⟩
          | false =>
            have HF : Hid (SR w2 g s l lf vv q ∧ But g g w w2 ∧ But g g w1 w2) := Lib.hid ⟨by rw [aftT, hr, if_neg Bool.false_ne_true] at hs2; exact hs2, HBT.out.trans hb2, HBT1.out.trans hb2⟩
            have HNX := Lib.hid (HMISS.out hr)
            clear hs2 hb2 hr
            go_wp2_with fail
            go_roundw
            case rel => exact ⟨k + 1, by omega, by go_num, HF.out.1, HF.out.2.1, HF.out.2.2, HNX⟩
            case measure => simp [intOf]; omega
    · have hkN : k = N := by omega
      have HF : Hid (ro = none) := Lib.hid (by
        rw [← HRO.out]
        exact find_no _ fun j hj => hno.out j (by rw [hkN, HNN.out]; exact hj))
      clear hno hsr hbt hbt1
      go_wp2_with fail
      go_ret
      exact ⟨by rw [HF.out]; rfl, by rw [HF.out]; exact HSR.out, HBT.out⟩
end Go.Proofs.YtpgneaekflhgnaaDoor
