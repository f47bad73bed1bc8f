/-
  Walks of uu's encoding: letter, line, Octal.
-/
import Derived.Test.YtjnknckbdfgjlaaOwn
import Derived.Deep.QuietTactic
import Derived.BigQuiet
import Derived.Lib.Strings
namespace Go.Proofs.Ytjnknckbdfgjlaa
open Go.RowKit

@[go_sem] theorem Try.convK (w : World) (b off l c : Nat) : (convert 38 9 (.slice (some ⟨b, off, none⟩) l c)).run Try.prog w = convK (cellBytes w b off l) w (convFb Try.prog w 38 9 b off l c) :=
  run_convK 38 9 5 Try.underlying38 Try.underlying5 Try.underlying9 w b off l c

/-- The letter of six bits. -/
def letterL (n : Nat) : UInt8 := if n = 0 then 96 else UInt8.ofNat (32 + n)

theorem letter_any (x : Int) (w : World) (h0 : 0 ≤ x) (h1 : x < 64) :
    Calls Try.prog 36 #[.int .u8 x] w fun e w' => e = .returned (.int .u8 (((letterL x.toNat).toNat : Nat) : Int)) ∧ w = w' := by
  by_cases hx : x = 0
  · subst hx
    go_enter Try.func36, Try.ntmps36
    go_wp2
    go_ret
    exact ⟨rfl, rfl⟩
  · have hb : (x == 0) = false := by rw [beq_eq_false_iff_ne]; exact hx
    have HX := Lib.hid hx
    clear hx
    go_enter Try.func36, Try.ntmps36
    go_wp2
    go_ret
    exact ⟨ret_int (by have := HX.out; rw [letterL, if_neg (by omega)]; simp; omega), rfl⟩

/-- The octal digits of a mode, four of them. -/
def octL (m : Nat) : List UInt8 := [UInt8.ofNat (48 + m / 512 % 8), UInt8.ofNat (48 + m / 64 % 8), UInt8.ofNat (48 + m / 8 % 8), UInt8.ofNat (48 + m % 8)]

set_option maxHeartbeats 400000 in
theorem octal_any (m : Nat) (w : World) (_h1 : m ≤ 4095) :
    Calls Try.prog 22 #[.int .i64 m] w fun e w' => e = .returned (.string (S (octL m))) ∧ Below w.heap.size w w' := by
  have hmk : ∀ w, (Instr.makeSlice 38 (.int .i64 4) (.int .i64 4)).run Try.prog w = .ok (.slice (some ⟨w.heap.size, 0, none⟩) 4 4) (w.alloc (.cells #[.int .u8 0, .int .u8 0, .int .u8 0, .int .u8 0] 5)) := fun _ => by kernel_rfl
  go_enter Try.func22, Try.ntmps22
  go_wp2
  go_rounds 5
  go_ret
  exact ⟨ret_string (by rfl), by go_grown⟩

/-- Four letters of three bytes. -/
def grp (a b c : UInt8) : List UInt8 := [letterL ((a.toNat * 65536 + b.toNat * 256 + c.toNat) / 262144), letterL ((a.toNat * 65536 + b.toNat * 256 + c.toNat) / 4096 % 64), letterL ((a.toNat * 65536 + b.toNat * 256 + c.toNat) / 64 % 64), letterL ((a.toNat * 65536 + b.toNat * 256 + c.toNat) % 64)]
def grpAt (l : List UInt8) (i : Nat) : List UInt8 := grp (l.getD (3 * i) 0) (l.getD (3 * i + 1) 0) (l.getD (3 * i + 2) 0)
def bodyTo (l : List UInt8) (k : Nat) : List UInt8 := (List.range k).flatMap (grpAt l)
theorem bodyTo_len (l : List UInt8) (k : Nat) : (bodyTo l k).length = 4 * k := by
  induction k with
  | zero => rfl
  | succ k ih => rw [bodyTo, List.range_succ, List.flatMap_append, List.length_append]; rw [bodyTo] at ih; rw [ih]; simp [grpAt, grp]; omega
/-- A line. -/
def lineL (l : List UInt8) : List UInt8 := letterL l.length :: bodyTo l ((l.length + 2) / 3) ++ [10]

set_option maxHeartbeats 800000 in
theorem line_any (s : ByteArray) (w : World) (h1 : s.size ≤ 45) :
    Calls Try.prog 23 #[.string s] w fun e w' => e = .returned (.string (S (lineL (L s)))) ∧ Below w.heap.size w w' := by
  go_enter Try.func23, Try.ntmps23
  go_wp2_with (go_at_call 36; refine (letter_any _ _ (by omega) (by omega)).mono ?_; rintro e w' ⟨rfl, rfl⟩)
  go_loop [0] (fun v => ∃ (j : Nat) (t : ByteArray), v = .string t ∧ L t = L s ++ List.replicate j 0 ∧ t.size = s.size + j ∧ ∀ i, i < j → (s.size + i) % 3 ≠ 0) (fun v => match v with | .string t => 50 - t.size | _ => 0)
  case atStart => exact ⟨0, s, rfl, by simp, by omega, fun i hi => by omega⟩
  case round =>
    obtain ⟨j, t, rfl, hL, hsz, hno⟩ := hrel
    have hj : j ≤ 2 := by
      rcases Nat.lt_or_ge 2 j with h | h
      · have a0 := hno 0 (by omega); have a1 := hno 1 (by omega); have a2 := hno 2 (by omega); omega
      · exact h
    have HL := Lib.hid hL
    have HN := Lib.hid hno
    have HZ := Lib.hid hsz
    have hts : t.size ≤ 47 := by omega
    clear hL hno hsz
    by_cases h3 : t.size % 3 = 0
    · have hb : (((t.size : Int) % 3) != 0) = false := by simp; omega
      have H3 := Lib.hid h3
      clear h3
      go_wp2
      go_loopw [3, 4] (fun v i wr => ∃ k : Nat, 3 * k ≤ t.size ∧ i = .int .i64 ((3 * k : Nat) : Int) ∧ OwnB wr w.heap.size v (letterL s.size :: bodyTo (L s) k) ∧ Below w.heap.size w wr) (fun _ i _ => t.size - (intOf i).toNat)
      case atStart => exact ⟨0, by omega, rfl, OwnB.made [letterL s.size] (Nat.le_refl _) (by simp [maxLen]) rfl rfl, by go_grown⟩
      case round =>
        obtain ⟨k, hk, rfl, hown, hbw⟩ := hrel
        have hbs := hbw.size
        by_cases hlt : 3 * k < t.size
        · have hk2 : 3 * k + 2 < t.size := by have := H3.out; omega
          obtain ⟨a, ha⟩ : ∃ a, a = (L t).getD (3 * k) 0 := ⟨_, rfl⟩
          obtain ⟨b, hb⟩ : ∃ b, b = (L t).getD (3 * k + 1) 0 := ⟨_, rfl⟩
          obtain ⟨c, hc⟩ : ∃ c, c = (L t).getD (3 * k + 2) 0 := ⟨_, rfl⟩
          have i0 := run_idx (P := Try.prog) (k := .i64) Try.underlying9 t (3 * (k : Int)) (3 * k) (by omega) (by omega)
          have i1 := run_idx (P := Try.prog) (k := .i64) Try.underlying9 t (3 * (k : Int) + 1) (3 * k + 1) (by omega) (by omega)
          have i2 := run_idx (P := Try.prog) (k := .i64) Try.underlying9 t (3 * (k : Int) + 2) (3 * k + 2) (by omega) (by omega)
          rw [← ha] at i0
          rw [← hb] at i1
          rw [← hc] at i2
          have HA := Lib.hid ha
          have HB := Lib.hid hb
          have HC := Lib.hid hc
          clear ha hb hc
          go_wp2_with fail
          go_quiet (fail)
          clear i0 i1 i2
          have hbq : Below wr.heap.size wr (wr.drewN nq) := below_drewN (Below.refl _ _) nq
          replace hown := hown.below hbq
          replace hbw := hbw.trans (hbq.mono hbs)
          replace hbs := hbw.size
          generalize wr.drewN nq = wq at hown hbw hbs
          clear hbq
          go_wp2_with fail
          rw [or3 a b c]
          obtain ⟨N, hN⟩ : ∃ N, N = a.toNat * 65536 + b.toNat * 256 + c.toNat := ⟨_, rfl⟩
          rw [← hN]
          have hN2 : N < 16777216 := by have := a.toNat_lt; have := b.toNat_lt; have := c.toNat_lt; omega
          have HN' := Lib.hid hN
          clear hN
          have hbl := bodyTo_len (L s) k
          refine wp_loop_rounds 5 ?_
          repeat any_goals (rw [rounds_succ]; go_wp2_with (first | (go_at_call 36; refine (letter_any _ _ (by omega) (by omega)).mono ?_; rintro e w' ⟨rfl, rfl⟩) | (at_builtin; refine append_byte rfl _ _ rfl rfl (OwnB.alloc (by assumption) _) _ rfl (cell_new _ _ _) (by simp; omega) (Below.alloc (by assumption) (by assumption) _) (by simp; omega) ?_; intro v1 w1 hown1 hb1 hs1)))
          go_roundw
          case rel =>
            refine ⟨k + 1, by omega, by go_num, ?_, by assumption⟩
            have hg : grpAt (L s) k = grp a b c := by
              have hp : ∀ i, (L t).getD i 0 = (L s).getD i 0 := fun i => by
                rw [HL.out]
                by_cases h : i < (L s).length
                · simp [List.getD, List.getElem?_append_left h]
                · simp only [List.getD, List.getElem?_append_right (Nat.le_of_not_lt h), List.getElem?_replicate, List.getElem?_eq_none (Nat.le_of_not_lt h)]
                  split <;> rfl
              rw [grpAt, ← hp, ← hp, ← hp, ← HA.out, ← HB.out, ← HC.out]
            have : letterL s.size :: bodyTo (L s) (k + 1) = letterL s.size :: bodyTo (L s) k ++ [letterL (N / 262144 % 64)] ++ [letterL (N / 4096 % 64)] ++ [letterL (N / 64 % 64)] ++ [letterL (N % 64)] := by
              have h26 : N / 262144 % 64 = N / 262144 := Nat.mod_eq_of_lt (by omega)
              rw [bodyTo, List.range_succ, List.flatMap_append]
              simp only [List.flatMap_cons, List.flatMap_nil, hg, grp, ← HN'.out, List.append_nil, h26]
              simp [bodyTo]
            rw [this]
            assumption
          case measure => simp [intOf]; omega
        · have hkt : 3 * k = t.size := by omega
          have hkk : k = (s.size + 2) / 3 := by have := HZ.out; have := HN.out; omega
          have HKK := Lib.hid hkk
          have hbl := bodyTo_len (L s) k
          clear hkt hkk
          go_wp2_with (at_builtin; refine append_byte rfl _ _ rfl rfl (OwnB.alloc (by assumption) _) (10 : UInt8) rfl (cell_new _ _ _) (by simp; omega) (Below.alloc (by assumption) (by assumption) _) (by simp; omega) ?_; intro v1 w1 hown1 hb1 hs1; have hcv := hown1.conv)
          go_ret
          exact ⟨ret_string (by rw [HKK.out]; rfl), by assumption⟩
    · have hb : (((t.size : Int) % 3) != 0) = true := by simp; omega
      have H3 := Lib.hid h3
      clear h3
      go_wp2
      go_round
      case rel => exact ⟨j + 1, _, rfl, by rw [L_append, HL.out]; simp [List.replicate_succ'], by have := HZ.out; simp; omega, fun i hi => by
          by_cases e : i = j
          · have := H3.out; have := HZ.out; subst e; omega
          · exact HN.out i (by omega)⟩
      case measure => simp; omega
end Go.Proofs.Ytjnknckbdfgjlaa
