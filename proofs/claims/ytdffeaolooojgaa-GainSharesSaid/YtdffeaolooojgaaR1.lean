/-
  The document's lines of letters (Line, Rest) and how many they are (Encoded): the walks, as in the chapter of letters.
-/
import Derived.Test.YtdffeaolooojgaaOwn
import Derived.Test.YtdffeaolooojgaaE4
import Derived.Deep.QuietTactic
import Derived.BigQuiet
import Derived.Lib.Strings
namespace Go.Proofs.Ytdffeaolooojgaa
open Go.RowKit

@[go_sem] theorem Try.convK (w : World) (b off l c : Nat) : (convert 52 9 (.slice (some ⟨b, off, none⟩) l c)).run Try.prog w = convK (cellBytes w b off l) w (convFb Try.prog w 52 9 b off l c) :=
  run_convK 52 9 5 Try.underlying52 Try.underlying5 Try.underlying9 w b off l c

/-- The letter of six bits. -/
def letterL (n : Nat) : UInt8 := if n = 0 then 96 else UInt8.ofNat (32 + n)

/-- Four letters of three bytes. -/
def grp (a b c : UInt8) : List UInt8 := [letterL ((a.toNat * 65536 + b.toNat * 256 + c.toNat) / 262144), letterL ((a.toNat * 65536 + b.toNat * 256 + c.toNat) / 4096 % 64), letterL ((a.toNat * 65536 + b.toNat * 256 + c.toNat) / 64 % 64), letterL ((a.toNat * 65536 + b.toNat * 256 + c.toNat) % 64)]
def grpAt (l : List UInt8) (i : Nat) : List UInt8 := grp (l.getD (3 * i) 0) (l.getD (3 * i + 1) 0) (l.getD (3 * i + 2) 0)
def bodyTo (l : List UInt8) (k : Nat) : List UInt8 := (List.range k).flatMap (grpAt l)
theorem bodyTo_len (l : List UInt8) (k : Nat) : (bodyTo l k).length = 4 * k := by
  induction k with
  | zero => rfl
  | succ k ih => rw [bodyTo, List.range_succ, List.flatMap_append, List.length_append]; rw [bodyTo] at ih; rw [ih]; simp [grpAt, grp]; omega
/-- A line. -/
def lineL (l : List UInt8) : List UInt8 := letterL l.length :: bodyTo l ((l.length + 2) / 3) ++ [10]

/-- The lines of bytes, without the first one. -/
def restL (l : List UInt8) : List UInt8 := if l = [] then lineL [] ++ [101, 110, 100, 10] else lineL (l.take 45) ++ restL (l.drop 45)
  termination_by l.length
  decreasing_by
    rename_i h
    have : 0 < l.length := List.length_pos_iff.2 h
    simp; omega
theorem restL_nil : restL [] = [96, 10, 101, 110, 100, 10] := by rw [restL, if_pos rfl]; rfl
theorem restL_cons {l : List UInt8} (h : l ≠ []) : restL l = lineL (l.take 45) ++ restL (l.drop 45) := by rw [restL, if_neg h]

theorem lineL_len (l : List UInt8) : (lineL l).length = 4 * ((l.length + 2) / 3) + 2 := by
  simp [lineL, bodyTo_len]

theorem restL_len : ∀ (n : Nat) (l : List UInt8), l.length ≤ n → (restL l).length ≤ 6 * l.length + 6 := by
  intro n
  induction n with
  | zero =>
    intro l hl
    obtain rfl : l = [] := List.length_eq_zero_iff.1 (by omega)
    rw [restL_nil]; simp
  | succ n ih =>
    intro l hl
    by_cases h : l = []
    · subst h; rw [restL_nil]; simp
    · have h0 : 0 < l.length := List.length_pos_iff.2 h
      rw [restL_cons h, List.length_append, lineL_len]
      have := ih (l.drop 45) (by simp; omega)
      simp at this ⊢
      omega

theorem refLetter_any (x : Int) (w : World) (h0 : 0 ≤ x) (h1 : x < 64) :
    Calls Try.prog 42 #[.int .i64 x] w fun e w' => e = .returned (.int .u8 (((letterL x.toNat).toNat : Nat) : Int)) ∧ w = w' := by
  by_cases hx : x = 0
  · subst hx
    go_enter Try.func42, Try.ntmps42
    go_wp2
    go_ret
    exact ⟨rfl, rfl⟩
  · have hb : (x == 0) = false := by rw [beq_eq_false_iff_ne]; exact hx
    have HX := Lib.hid hx
    clear hx
    go_enter Try.func42, Try.ntmps42
    go_wp2
    go_ret
    exact ⟨ret_int (by have := HX.out; rw [letterL, if_neg (by omega)]; simp; omega), rfl⟩

theorem getD_past (l : List UInt8) {i : Nat} (h : l.length ≤ i) : l.getD i 0 = 0 := by simp [List.getD, List.getElem?_eq_none h]

theorem cells4 (w : World) (e : TypeId) (x y z r : Int) (u v t q : UInt8) (hx : x = (u.toNat : Nat)) (hy : y = (v.toNat : Nat)) (hz : z = (t.toNat : Nat)) (hr : r = (q.toNat : Nat)) : ∀ j, j < 4 →
    (w.alloc (.cells #[.int .u8 x, .int .u8 y, .int .u8 z, .int .u8 r] e)).cell? ⟨w.heap.size, j, none⟩ = some (.int .u8 ((([u, v, t, q] : List UInt8).getD j 0).toNat : Nat)) := by
  subst hx hy hz hr
  intro j hj
  match j, hj with
  | 0, _ => simp
  | 1, _ => simp
  | 2, _ => simp
  | 3, _ => simp

set_option maxHeartbeats 1600000 in
theorem refLine_any (s : ByteArray) (w : World) (h1 : s.size ≤ 45) :
    Calls Try.prog 41 #[.string s] w fun e w' => e = .returned (.string (S (lineL (L s)))) ∧ Below w.heap.size w w' := by
  go_enter Try.func41, Try.ntmps41
  go_wp2_with (go_at_call 42; refine (refLetter_any _ _ (by omega) (by omega)).mono ?_; rintro e w' ⟨rfl, rfl⟩)
  go_loopw [3, 4] (fun v i wr => ∃ k : Nat, 3 * k ≤ s.size + 2 ∧ i = .int .i64 ((3 * k : Nat) : Int) ∧ OwnB wr w.heap.size v (letterL s.size :: bodyTo (L s) k) ∧ Below w.heap.size w wr) (fun _ i _ => s.size + 3 - (intOf i).toNat)
  case atStart => exact ⟨0, by omega, rfl, OwnB.made [letterL s.size] (Nat.le_refl _) (by simp [maxLen]) rfl rfl, by go_grown⟩
  case round =>
    obtain ⟨k, hk, rfl, hown, hbw⟩ := hrel
    have hbs := hbw.size
    have hbl := bodyTo_len (L s) k
    by_cases hlt : 3 * k < s.size
    · obtain ⟨a, ha⟩ : ∃ a, a = (L s).getD (3 * k) 0 := ⟨_, rfl⟩
      obtain ⟨b, hb⟩ : ∃ b, b = (L s).getD (3 * k + 1) 0 := ⟨_, rfl⟩
      obtain ⟨c, hc⟩ : ∃ c, c = (L s).getD (3 * k + 2) 0 := ⟨_, rfl⟩
      have hg : grpAt (L s) k = grp a b c := by rw [grpAt, ← ha, ← hb, ← hc]
      have HG := Lib.hid hg
      obtain ⟨N, hN⟩ : ∃ N, N = a.toNat * 65536 + b.toNat * 256 + c.toNat := ⟨_, rfl⟩
      have hal := a.toNat_lt
      have hbl2 := b.toNat_lt
      have hcl := c.toNat_lt
      have hN2 : N < 16777216 := by omega
      have HN' := Lib.hid hN
      have i0 := run_idx (P := Try.prog) (k := .i64) Try.underlying9 s (3 * (k : Int)) (3 * k) (by omega) (by omega)
      rw [← ha] at i0
      clear hg
      by_cases hr2 : 3 * k + 1 < s.size
      · have i1 := run_idx (P := Try.prog) (k := .i64) Try.underlying9 s (3 * (k : Int) + 1) (3 * k + 1) (by omega) (by omega)
        rw [← hb] at i1
        by_cases hr3 : 3 * k + 2 < s.size
        · have i2 := run_idx (P := Try.prog) (k := .i64) Try.underlying9 s (3 * (k : Int) + 2) (3 * k + 2) (by omega) (by omega)
          rw [← hc] at i2
          have hv : (256 * (256 * ((a.toNat : Nat) : Int) + ((b.toNat : Nat) : Int)) + ((c.toNat : Nat) : Int)) = (N : Int) := by omega
          clear ha hb hc hN
          go_wp2_with fail
          refine wp_loop_rounds 4 ?_
          repeat any_goals (rw [rounds_succ]; go_wp2_with fail)
          go_wp2_with (first | (go_at_call 42; refine (refLetter_any _ _ (by omega) (by omega)).mono ?_; rintro e w' ⟨rfl, rfl⟩) | (at_builtin; go_must (refine append_bytes rfl _ _ rfl rfl (OwnB.alloc hown _) [letterL (N / 262144), letterL (N / 4096 % 64), letterL (N / 64 % 64), letterL (N % 64)] rfl rfl (cells4 _ _ _ _ _ _ _ _ _ _ rfl rfl rfl rfl) (by simp; omega) (Below.alloc hbw hbs _) (by simp; omega) ?_); intro v1 w1 hown1 hb1 hs1))
          go_roundw
          case rel =>
            refine ⟨k + 1, by omega, by go_num, ?_, hb1⟩
            have : letterL s.size :: bodyTo (L s) (k + 1) = letterL s.size :: bodyTo (L s) k ++ [letterL (N / 262144), letterL (N / 4096 % 64), letterL (N / 64 % 64), letterL (N % 64)] := by
              rw [bodyTo, List.range_succ, List.flatMap_append]
              simp only [List.flatMap_cons, List.flatMap_nil, HG.out, grp, ← HN'.out, List.append_nil]
              simp [bodyTo]
            rw [this]
            exact hown1
          case measure => simp [intOf]; omega
        · have hc0 : c.toNat = 0 := by rw [hc, getD_past _ (by rw [L_size]; omega)]; rfl
          have hv : 256 * (256 * ((a.toNat : Nat) : Int) + ((b.toNat : Nat) : Int)) = (N : Int) := by omega
          clear hc0
          clear ha hb hc hN
          go_wp2_with fail
          refine wp_loop_rounds 4 ?_
          repeat any_goals (rw [rounds_succ]; go_wp2_with fail)
          go_wp2_with (first | (go_at_call 42; refine (refLetter_any _ _ (by omega) (by omega)).mono ?_; rintro e w' ⟨rfl, rfl⟩) | (at_builtin; go_must (refine append_bytes rfl _ _ rfl rfl (OwnB.alloc hown _) [letterL (N / 262144), letterL (N / 4096 % 64), letterL (N / 64 % 64), letterL (N % 64)] rfl rfl (cells4 _ _ _ _ _ _ _ _ _ _ rfl rfl rfl rfl) (by simp; omega) (Below.alloc hbw hbs _) (by simp; omega) ?_); intro v1 w1 hown1 hb1 hs1))
          go_roundw
          case rel =>
            refine ⟨k + 1, by omega, by go_num, ?_, hb1⟩
            have : letterL s.size :: bodyTo (L s) (k + 1) = letterL s.size :: bodyTo (L s) k ++ [letterL (N / 262144), letterL (N / 4096 % 64), letterL (N / 64 % 64), letterL (N % 64)] := by
              rw [bodyTo, List.range_succ, List.flatMap_append]
              simp only [List.flatMap_cons, List.flatMap_nil, HG.out, grp, ← HN'.out, List.append_nil]
              simp [bodyTo]
            rw [this]
            exact hown1
          case measure => simp [intOf]; omega
      · have hc0 : c.toNat = 0 := by rw [hc, getD_past _ (by rw [L_size]; omega)]; rfl
        have hb0 : b.toNat = 0 := by rw [hb, getD_past _ (by rw [L_size]; omega)]; rfl
        have hv : 256 * (256 * ((a.toNat : Nat) : Int)) = (N : Int) := by omega
        clear hc0 hb0
        clear ha hb hc hN
        go_wp2_with fail
        refine wp_loop_rounds 4 ?_
        repeat any_goals (rw [rounds_succ]; go_wp2_with fail)
        go_wp2_with (first | (go_at_call 42; refine (refLetter_any _ _ (by omega) (by omega)).mono ?_; rintro e w' ⟨rfl, rfl⟩) | (at_builtin; go_must (refine append_bytes rfl _ _ rfl rfl (OwnB.alloc hown _) [letterL (N / 262144), letterL (N / 4096 % 64), letterL (N / 64 % 64), letterL (N % 64)] rfl rfl (cells4 _ _ _ _ _ _ _ _ _ _ rfl rfl rfl rfl) (by simp; omega) (Below.alloc hbw hbs _) (by simp; omega) ?_); intro v1 w1 hown1 hb1 hs1))
        go_roundw
        case rel =>
          refine ⟨k + 1, by omega, by go_num, ?_, hb1⟩
          have : letterL s.size :: bodyTo (L s) (k + 1) = letterL s.size :: bodyTo (L s) k ++ [letterL (N / 262144), letterL (N / 4096 % 64), letterL (N / 64 % 64), letterL (N % 64)] := by
            rw [bodyTo, List.range_succ, List.flatMap_append]
            simp only [List.flatMap_cons, List.flatMap_nil, HG.out, grp, ← HN'.out, List.append_nil]
            simp [bodyTo]
          rw [this]
          exact hown1
        case measure => simp [intOf]; omega
    · have hkk : k = (s.size + 2) / 3 := by omega
      have HKK := Lib.hid hkk
      clear hkk
      go_wp2_with (at_builtin; refine append_byte rfl _ _ rfl rfl (OwnB.alloc (by assumption) _) (10 : UInt8) rfl (cell_new _ _ _) (by simp; omega) (Below.alloc (by assumption) (by assumption) _) (by simp; omega) ?_; intro v1 w1 hown1 hb1 hs1; have hcv := hown1.conv)
      go_ret
      exact ⟨ret_string (by rw [HKK.out]; rfl), hb1⟩
set_option maxHeartbeats 800000 in
theorem refRest_any (s : ByteArray) (w : World) (h1 : s.size ≤ 3000) :
    Calls Try.prog 38 #[.string s] w fun e w' => e = .returned (.string (S (restL (L s)))) ∧ Below w.heap.size w w' := by
  have hls : (L s).length = s.size := rfl
  have hrl := restL_len (L s).length (L s) (Nat.le_refl _)
  go_enter Try.func38, Try.ntmps38
  go_wp2_with fail
  go_loopw [3, 4] (fun v i wr => ∃ (k : Nat) (x : ByteArray), 45 * k ≤ s.size + 44 ∧ v = .string x ∧ i = .int .i64 ((45 * k : Nat) : Int) ∧ L x ++ restL ((L s).drop (45 * k)) = restL (L s) ∧ Below w.heap.size w wr) (fun _ i _ => s.size + 45 - (intOf i).toNat)
  case atStart => exact ⟨0, ⟨#[]⟩, by omega, rfl, rfl, rfl, Below.refl _ _⟩
  case round =>
    obtain ⟨k, x, hk, rfl, rfl, heq, hbw⟩ := hrel
    have hbs := hbw.size
    have hxs : x.size ≤ 20000 := by
      have := congrArg List.length heq
      have h3 : (L x).length = x.size := rfl
      simp only [List.length_append] at this
      omega
    have HE := Lib.hid heq
    clear heq
    by_cases hlt : 45 * k < s.size
    · obtain ⟨e, he⟩ : ∃ e : Nat, e = min s.size (45 * k + 45) := ⟨_, rfl⟩
      have h0 : (L s).drop (45 * k) ≠ [] := by
        intro h; have := congrArg List.length h; simp at this; omega
      have hpart : L (s.extract (45 * k) e) = ((L s).drop (45 * k)).take 45 := by
        rw [L_extract]
        by_cases h : s.size ≤ 45 * k + 45
        · rw [List.take_of_length_le (by simp; omega), List.take_of_length_le (by simp; omega)]
        · rw [show e - 45 * k = 45 by omega]
      have hfin : ∀ r : ByteArray, r = S (lineL (L (s.extract (45 * k) e))) → L (x ++ r) ++ restL ((L s).drop (45 * (k + 1))) = restL (L s) := by
        intro r hr
        rw [← HE.out, restL_cons h0, hr, L_append, L_S, hpart, List.drop_drop, List.append_assoc]; rfl
      have hps : (s.extract (45 * k) e).size ≤ 45 := by
        have := congrArg List.length hpart
        rw [L_size, List.length_take] at this; omega
      have HPS := Lib.hid hps
      obtain ⟨r, hr⟩ : ∃ r, r = S (lineL (L (s.extract (45 * k) e))) := ⟨_, rfl⟩
      have hre := hfin r hr
      have hrs : r.size ≤ 62 := by rw [hr, S_size, lineL_len, L_size]; omega
      have HRR := Lib.hid hr
      have HR := Lib.hid hre
      clear hr hre
      by_cases hc : s.size < 45 * k + 45
      all_goals
        obtain rfl : e = _ := he.trans (by first | exact Nat.min_eq_left (by omega) | exact Nat.min_eq_right (by omega))
        clear h0 hpart hfin hps he
        go_wp2_with fail
        refine (refLine_any _ _ HPS.out).mono ?_
        rintro e w3 ⟨rfl, hb3⟩
        rw [← HRR.out]
        go_wp2_with fail
        go_roundw
        case rel => exact ⟨k + 1, x ++ r, by omega, rfl, by go_num, HR.out, hbw.trans (hb3.mono hbs)⟩
        case measure => simp [intOf]; omega
    · have hd : (L s).drop (45 * k) = [] := List.drop_of_length_le (by omega)
      have hfin : ∀ r : ByteArray, r = S (lineL (L ⟨#[]⟩)) → x ++ r ++ ⟨#[101, 110, 100, 10]⟩ = S (restL (L s)) := by
        intro r hr
        apply L_inj
        rw [L_S, ← HE.out, hd, restL_nil, hr, L_append, L_append, L_S, List.append_assoc]; rfl
      have HF := Lib.hid hfin
      clear hd hfin
      go_wp2_with fail
      refine (refLine_any _ _ (by simp)).mono ?_
      rintro e w3 ⟨rfl, hb3⟩
      obtain ⟨r, hr⟩ : ∃ r, r = S (lineL (L ⟨#[]⟩)) := ⟨_, rfl⟩
      have hrs : r.size = 2 := by rw [hr]; rfl
      rw [← hr]
      have hre := HF.out r hr
      have HR := Lib.hid hre
      clear hr hre
      go_wp2_with fail
      go_ret
      exact ⟨ret_string HR.out, hbw.trans (hb3.mono hbs)⟩

/-- How long the lines are. -/
def encLen (n : Nat) : Nat := n / 45 * 62 + (if n % 45 = 0 then 0 else (n % 45 + 2) / 3 * 4 + 2) + 6
theorem restL_length : ∀ (n : Nat) (l : List UInt8), l.length ≤ n → (restL l).length = encLen l.length := by
  intro n
  induction n with
  | zero =>
    intro l hl
    obtain rfl : l = [] := List.length_eq_zero_iff.1 (by omega)
    rw [restL_nil]; rfl
  | succ n ih =>
    intro l hl
    by_cases h : l = []
    · subst h; rw [restL_nil]; rfl
    · have h0 : 0 < l.length := List.length_pos_iff.2 h
      rw [restL_cons h, List.length_append, lineL_len, ih _ (by simp; omega), List.length_take, List.length_drop, encLen, encLen]
      by_cases h45 : l.length < 45
      · rw [Nat.min_eq_right (by omega), show l.length - 45 = 0 by omega, show l.length % 45 = l.length by omega, if_pos (show 0 % 45 = 0 from rfl), if_neg (show ¬ l.length = 0 by omega), show l.length / 45 = 0 by omega]
        omega
      · rw [Nat.min_eq_left (by omega)]
        obtain ⟨d, hd⟩ : ∃ d, l.length = d + 45 := ⟨l.length - 45, by omega⟩
        rw [hd, Nat.add_sub_cancel, Nat.add_div_right _ (by omega), Nat.add_mod_right]
        split <;> omega

theorem encoded_any (n : Nat) (w : World) (h : n ≤ 100000) :
    Calls Try.prog 28 #[.int .i64 n] w fun e w' => e = .returned (.int .i64 (encLen n : Nat)) ∧ w = w' := by
  by_cases h0 : n % 45 = 0
  · have hv : encLen n = n / 45 * 62 + 0 + 6 := by rw [encLen, if_pos h0]
    have HV := Lib.hid hv
    clear hv
    go_enter Try.func28, Try.ntmps28
    go_wp2_with fail
    go_ret
    exact ⟨ret_int (by rw [HV.out]; omega), rfl⟩
  · have hv : encLen n = n / 45 * 62 + ((n % 45 + 2) / 3 * 4 + 2) + 6 := by rw [encLen, if_neg h0]
    have HV := Lib.hid hv
    clear hv
    go_enter Try.func28, Try.ntmps28
    go_wp2_with fail
    go_ret
    exact ⟨ret_int (by rw [HV.out]; omega), rfl⟩
end Go.Proofs.Ytdffeaolooojgaa
