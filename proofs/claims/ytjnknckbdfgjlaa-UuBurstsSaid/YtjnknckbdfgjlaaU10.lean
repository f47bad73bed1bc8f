/-
  Walks of the reference's Line, Rest, Encode.
-/
import Derived.Test.YtjnknckbdfgjlaaU9
namespace Go.Proofs.Ytjnknckbdfgjlaa
open Go.RowKit

theorem getD_past (l : List UInt8) {i : Nat} (h : l.length ≤ i) : l.getD i 0 = 0 := by simp [List.getD, List.getElem?_eq_none h]

theorem cells4 (w : World) (e : TypeId) (x y z r : Int) (u v t q : UInt8) (hx : x = (u.toNat : Nat)) (hy : y = (v.toNat : Nat)) (hz : z = (t.toNat : Nat)) (hr : r = (q.toNat : Nat)) : ∀ j, j < 4 →
    (w.alloc (.cells #[.int .u8 x, .int .u8 y, .int .u8 z, .int .u8 r] e)).cell? ⟨w.heap.size, j, none⟩ = some (.int .u8 ((([u, v, t, q] : List UInt8).getD j 0).toNat : Nat)) := by
  subst hx hy hz hr
  intro j hj
  match j, hj with
  | 0, _ => simp
  | 1, _ => simp
  | 2, _ => simp
  | 3, _ => simp

set_option maxHeartbeats 1600000 in
theorem refLine_any (s : ByteArray) (w : World) (h1 : s.size ≤ 45) :
    Calls Try.prog 14 #[.string s] w fun e w' => e = .returned (.string (S (lineL (L s)))) ∧ Below w.heap.size w w' := by
  go_enter Try.func14, Try.ntmps14
  go_wp2_with (go_at_call 31; refine (refLetter_any _ _ (by omega) (by omega)).mono ?_; rintro e w' ⟨rfl, rfl⟩)
  go_loopw [3, 4] (fun v i wr => ∃ k : Nat, 3 * k ≤ s.size + 2 ∧ i = .int .i64 ((3 * k : Nat) : Int) ∧ OwnB wr w.heap.size v (letterL s.size :: bodyTo (L s) k) ∧ Below w.heap.size w wr) (fun _ i _ => s.size + 3 - (intOf i).toNat)
  case atStart => exact ⟨0, by omega, rfl, OwnB.made [letterL s.size] (Nat.le_refl _) (by simp [maxLen]) rfl rfl, by go_grown⟩
  case round =>
    obtain ⟨k, hk, rfl, hown, hbw⟩ := hrel
    have hbs := hbw.size
    have hbl := bodyTo_len (L s) k
    by_cases hlt : 3 * k < s.size
    · obtain ⟨a, ha⟩ : ∃ a, a = (L s).getD (3 * k) 0 := ⟨_, rfl⟩
      obtain ⟨b, hb⟩ : ∃ b, b = (L s).getD (3 * k + 1) 0 := ⟨_, rfl⟩
      obtain ⟨c, hc⟩ : ∃ c, c = (L s).getD (3 * k + 2) 0 := ⟨_, rfl⟩
      have hg : grpAt (L s) k = grp a b c := by rw [grpAt, ← ha, ← hb, ← hc]
      have HG := Lib.hid hg
      obtain ⟨N, hN⟩ : ∃ N, N = a.toNat * 65536 + b.toNat * 256 + c.toNat := ⟨_, rfl⟩
      have hal := a.toNat_lt
      have hbl2 := b.toNat_lt
      have hcl := c.toNat_lt
      have hN2 : N < 16777216 := by omega
      have HN' := Lib.hid hN
      have i0 := run_idx (P := Try.prog) (k := .i64) Try.underlying9 s (3 * (k : Int)) (3 * k) (by omega) (by omega)
      rw [← ha] at i0
      clear hg
      by_cases hr2 : 3 * k + 1 < s.size
      · have i1 := run_idx (P := Try.prog) (k := .i64) Try.underlying9 s (3 * (k : Int) + 1) (3 * k + 1) (by omega) (by omega)
        rw [← hb] at i1
        by_cases hr3 : 3 * k + 2 < s.size
        · have i2 := run_idx (P := Try.prog) (k := .i64) Try.underlying9 s (3 * (k : Int) + 2) (3 * k + 2) (by omega) (by omega)
          rw [← hc] at i2
          have hv : (256 * (256 * ((a.toNat : Nat) : Int) + ((b.toNat : Nat) : Int)) + ((c.toNat : Nat) : Int)) = (N : Int) := by omega
          clear ha hb hc hN
          go_wp2_with fail
          refine wp_loop_rounds 4 ?_
          repeat any_goals (rw [rounds_succ]; go_wp2_with fail)
          go_wp2_with (first | (go_at_call 31; refine (refLetter_any _ _ (by omega) (by omega)).mono ?_; rintro e w' ⟨rfl, rfl⟩) | (at_builtin; go_must (refine append_bytes rfl _ _ rfl rfl (OwnB.alloc hown _) [letterL (N / 262144), letterL (N / 4096 % 64), letterL (N / 64 % 64), letterL (N % 64)] rfl rfl (cells4 _ _ _ _ _ _ _ _ _ _ rfl rfl rfl rfl) (by simp; omega) (Below.alloc hbw hbs _) (by simp; omega) ?_); intro v1 w1 hown1 hb1 hs1))
          go_roundw
          case rel =>
            refine ⟨k + 1, by omega, by go_num, ?_, hb1⟩
            have : letterL s.size :: bodyTo (L s) (k + 1) = letterL s.size :: bodyTo (L s) k ++ [letterL (N / 262144), letterL (N / 4096 % 64), letterL (N / 64 % 64), letterL (N % 64)] := by
              rw [bodyTo, List.range_succ, List.flatMap_append]
              simp only [List.flatMap_cons, List.flatMap_nil, HG.out, grp, ← HN'.out, List.append_nil]
              simp [bodyTo]
            rw [this]
            exact hown1
          case measure => simp [intOf]; omega
        · have hc0 : c.toNat = 0 := by rw [hc, getD_past _ (by rw [L_size]; omega)]; rfl
          have hv : 256 * (256 * ((a.toNat : Nat) : Int) + ((b.toNat : Nat) : Int)) = (N : Int) := by omega
          clear hc0
          clear ha hb hc hN
          go_wp2_with fail
          refine wp_loop_rounds 4 ?_
          repeat any_goals (rw [rounds_succ]; go_wp2_with fail)
          go_wp2_with (first | (go_at_call 31; refine (refLetter_any _ _ (by omega) (by omega)).mono ?_; rintro e w' ⟨rfl, rfl⟩) | (at_builtin; go_must (refine append_bytes rfl _ _ rfl rfl (OwnB.alloc hown _) [letterL (N / 262144), letterL (N / 4096 % 64), letterL (N / 64 % 64), letterL (N % 64)] rfl rfl (cells4 _ _ _ _ _ _ _ _ _ _ rfl rfl rfl rfl) (by simp; omega) (Below.alloc hbw hbs _) (by simp; omega) ?_); intro v1 w1 hown1 hb1 hs1))
          go_roundw
          case rel =>
            refine ⟨k + 1, by omega, by go_num, ?_, hb1⟩
            have : letterL s.size :: bodyTo (L s) (k + 1) = letterL s.size :: bodyTo (L s) k ++ [letterL (N / 262144), letterL (N / 4096 % 64), letterL (N / 64 % 64), letterL (N % 64)] := by
              rw [bodyTo, List.range_succ, List.flatMap_append]
              simp only [List.flatMap_cons, List.flatMap_nil, HG.out, grp, ← HN'.out, List.append_nil]
              simp [bodyTo]
            rw [this]
            exact hown1
          case measure => simp [intOf]; omega
      · have hc0 : c.toNat = 0 := by rw [hc, getD_past _ (by rw [L_size]; omega)]; rfl
        have hb0 : b.toNat = 0 := by rw [hb, getD_past _ (by rw [L_size]; omega)]; rfl
        have hv : 256 * (256 * ((a.toNat : Nat) : Int)) = (N : Int) := by omega
        clear hc0 hb0
        clear ha hb hc hN
        go_wp2_with fail
        refine wp_loop_rounds 4 ?_
        repeat any_goals (rw [rounds_succ]; go_wp2_with fail)
        go_wp2_with (first | (go_at_call 31; refine (refLetter_any _ _ (by omega) (by omega)).mono ?_; rintro e w' ⟨rfl, rfl⟩) | (at_builtin; go_must (refine append_bytes rfl _ _ rfl rfl (OwnB.alloc hown _) [letterL (N / 262144), letterL (N / 4096 % 64), letterL (N / 64 % 64), letterL (N % 64)] rfl rfl (cells4 _ _ _ _ _ _ _ _ _ _ rfl rfl rfl rfl) (by simp; omega) (Below.alloc hbw hbs _) (by simp; omega) ?_); intro v1 w1 hown1 hb1 hs1))
        go_roundw
        case rel =>
          refine ⟨k + 1, by omega, by go_num, ?_, hb1⟩
          have : letterL s.size :: bodyTo (L s) (k + 1) = letterL s.size :: bodyTo (L s) k ++ [letterL (N / 262144), letterL (N / 4096 % 64), letterL (N / 64 % 64), letterL (N % 64)] := by
            rw [bodyTo, List.range_succ, List.flatMap_append]
            simp only [List.flatMap_cons, List.flatMap_nil, HG.out, grp, ← HN'.out, List.append_nil]
            simp [bodyTo]
          rw [this]
          exact hown1
        case measure => simp [intOf]; omega
    · have hkk : k = (s.size + 2) / 3 := by omega
      have HKK := Lib.hid hkk
      clear hkk
      go_wp2_with (at_builtin; refine append_byte rfl _ _ rfl rfl (OwnB.alloc (by assumption) _) (10 : UInt8) rfl (cell_new _ _ _) (by simp; omega) (Below.alloc (by assumption) (by assumption) _) (by simp; omega) ?_; intro v1 w1 hown1 hb1 hs1; have hcv := hown1.conv)
      go_ret
      exact ⟨ret_string (by rw [HKK.out]; rfl), hb1⟩
end Go.Proofs.Ytjnknckbdfgjlaa
