/-
  setDigits: the digits, written; how many without the zeros at their end.
-/
import Derived.Test.YtnofoenkeoabpaaDoorH5
import Derived.Lib.QuietBelow
import Derived.Lib.ItoaLen
namespace Go.Proofs.YtnofoenkeoabpaaDoor
open Go.Shelf Go.RowKit Go.Sort Go.Lib

theorem getD_take (l : List UInt8) (k j : Nat) (h : j < k) : (l.take k).getD j 0 = l.getD j 0 := by
  simp only [List.getD, List.getElem?_take_of_lt h]
theorem nzD_behind (l : List UInt8) {j : Nat} (h1 : nzD l ≤ j) (h2 : j < l.length) : l.getD j 0 = 48 := by
  obtain ⟨_, h, _⟩ := nzD_split l
  have hle := nzD_le l
  rw [h]
  have e : (l.take (nzD l)).length = nzD l := by rw [List.length_take]; omega
  simp only [List.getD]
  rw [List.getElem?_append_right (by omega), List.getElem?_replicate, if_pos (by omega)]
  rfl
theorem dropWhile_head : ∀ (l : List UInt8), l.dropWhile (· == 48) = [] ∨ ∃ x r, l.dropWhile (· == 48) = x :: r ∧ x ≠ 48
  | [] => .inl rfl
  | c :: l => by
    rw [List.dropWhile_cons]
    by_cases hc : (c == 48) = true
    · rw [if_pos hc]; exact dropWhile_head l
    · rw [if_neg hc]; exact .inr ⟨c, l, rfl, by simpa using hc⟩
theorem nzD_last (l : List UInt8) (h : 0 < nzD l) : l.getD (nzD l - 1) 0 ≠ 48 := by
  rcases dropWhile_head l.reverse with e | ⟨x, r, e, hx⟩
  · rw [nzD, e] at h; exact absurd h (by decide)
  · have hs : (l.reverse.dropWhile (· == 48)).reverse ++ (l.reverse.takeWhile (· == 48)).reverse = l := by
      rw [← List.reverse_append, List.takeWhile_append_dropWhile, List.reverse_reverse]
    have hn : nzD l = r.length + 1 := by rw [nzD, e]; rfl
    rw [e, List.reverse_cons] at hs
    rw [hn, Nat.add_sub_cancel, ← hs]
    simp only [List.getD]
    rw [List.append_assoc, List.getElem?_append_right (by rw [List.length_reverse]; omega), List.length_reverse, Nat.sub_self]
    exact hx

theorem below_putRow (w : World) (blk off : Nat) (d : Array UInt8) : Below blk w (putRow (fun (b : UInt8) => Value.int .u8 (b.toNat : Int)) w blk off d) :=
  ⟨rfl, rfl, rfl, by simp, fun k hk => by simp only [putRow, mapBlock, Array.getElem?_modify]; rw [if_neg (by omega)]⟩

set_option maxHeartbeats 1600000 in
theorem setDigits_any (d b nd : Nat) (w : World) (h2 : d ≤ 1000000000000) (hnd : nd = nDigits d) (hn : nd ≤ 24)
    (hH : Holds (fun (b : UInt8) => Value.int .u8 (b.toNat : Int)) w b 0 (Array.replicate nd 0)) :
    Calls Tryd.prog 38 #[.slice (some ⟨b, 0, none⟩) 24 24, .int .u64 (d : Int), .int .i64 (-3), .int .i64 (nd : Int)] w fun r w' => r = .returned (.tuple #[.int .i64 ((nd : Int) - 3), .int .i64 ((nzD (decDigits d) : Nat) : Int)]) ∧
      (∀ j, j < nd → w'.cell? ⟨b, j, none⟩ = some (.int .u8 (((decDigits d).getD j 0).toNat : Nat))) ∧ Below b w w' := by
  have hl : (decDigits d).length = nd := by rw [decDigits_length, hnd]
  have hfmt := Tryd.internal_strconv_formatBase10 b 0 24 d (Array.replicate nd 0) w hH (by rw [Array.size_replicate, hnd]; exact lt_pow_nDigits d) (by omega) (by rw [Array.size_replicate]; omega)
  rw [Array.size_replicate] at hfmt
  have H1 : Hid (Calls Tryd.prog 57 #[.slice (some ⟨b, 0, none⟩) nd 24, .int .u64 (d : Int)] w fun e w' => e = .returned (.tuple #[]) ∧ (∀ j, j < nd → w'.cell? ⟨b, j, none⟩ = some (.int .u8 (((decDigits d).getD j 0).toNat : Nat))) ∧ Below b w w') := Lib.hid (hfmt.mono fun e w' ⟨he, k, v', dk, hw, hF⟩ => by
    subst hw
    have hF' := hF
    rw [hnd] at hF'
    refine ⟨he, fun j hj => ?_, below_drewN (below_putRow w b 0 dk) k⟩
    have hj' : j < (decDigits d).length := by omega
    have e1 := row_is_numeral hF' j hj'
    have e2 := cell?_putRow (fun (b : UInt8) => Value.int .u8 (b.toNat : Int)) w b 0 _ dk hH (by rw [hF.size, Array.size_replicate]) j (by rw [hF.size]; omega)
    rw [Nat.zero_add, ← e1] at e2
    rw [World.cell?_drewN, e2, List.getD, List.getElem?_eq_getElem hj']
    rfl)
  have hle := nzD_le (decDigits d)
  have hbe := fun j => nzD_behind (decDigits d) (j := j)
  have hla := nzD_last (decDigits d)
  rw [hl] at hle hbe
  generalize nzD (decDigits d) = z at hle hbe hla ⊢
  generalize decDigits d = l at H1 hl hbe hla ⊢
  have HB := Lib.hid hbe
  have HA := Lib.hid hla
  clear hfmt hH hnd h2 hl hbe hla
  go_enter Tryd.func38, Tryd.ntmps38
  go_wp2_with fail
  refine H1.out.mono ?_
  rintro e w1 ⟨rfl, hc, hb1⟩
  have HC := Lib.hid hc
  clear hc H1
  go_wp2_with fail
  go_loopw [3] (fun i wr => ∃ k : Nat, i = .int .i64 (k : Int) ∧ z ≤ k ∧ k ≤ nd ∧ ∃ q, wr = w1.drewN q) (fun i _ => (RowKit.intOf i).toNat)
  case atStart => exact ⟨nd, rfl, hle, Nat.le_refl _, 0, rfl⟩
  case round =>
    obtain ⟨k, rfl, hk1, hk2, q, rfl⟩ := hrel
    by_cases h0 : k = 0
    · obtain rfl : z = 0 := by omega
      subst h0
      go_wp2
      go_ret2
      exact ⟨by go_num, fun j hj => HC.out j hj, below_drewN hb1 q⟩
    · obtain ⟨k0, rfl⟩ : ∃ k0, k = k0 + 1 := ⟨k - 1, by omega⟩
      have hc : (w1.drewN q).cell? ⟨b, k0, none⟩ = some (.int .u8 ((l.getD k0 0).toNat : Nat)) := HC.out k0 (by omega)
      have hz1 := HA.out
      have hz2 := fun h => HB.out k0 h (by omega)
      obtain ⟨c, hcc⟩ : ∃ c, c = l.getD k0 0 := ⟨_, rfl⟩
      rw [← hcc] at hc hz2
      by_cases h48 : c = 48
      · have hz : z ≤ k0 := by
          rcases Nat.lt_or_ge k0 z with h | h
          · obtain rfl : z = k0 + 1 := by omega
            have := hz1 (by omega)
            rw [Nat.add_sub_cancel, ← hcc] at this
            exact absurd h48 this
          · exact h
        subst h48
        clear hz1 hz2 hcc
        go_wp2_with fail
        go_roundw
        case rel => exact ⟨k0, by go_num, hz, by omega, q, rfl⟩
        case measure => simp [RowKit.intOf]
      · obtain rfl : z = k0 + 1 := by
          rcases Nat.lt_or_ge k0 z with h | h
          · omega
          · exact absurd (hz2 h) h48
        have hx : (((c.toNat : Nat) : Int) == 48) = false := by
          rw [beq_eq_false_iff_ne]
          intro e
          exact h48 (by have : c.toNat = (48 : UInt8).toNat := by show c.toNat = 48; omega
                        exact UInt8.toNat_inj.1 this)
        clear hz1 hz2 h48 hcc
        go_wp2
        go_ret2
        exact ⟨by go_num, fun j hj => HC.out j hj, below_drewN hb1 q⟩
end Go.Proofs.YtnofoenkeoabpaaDoor
