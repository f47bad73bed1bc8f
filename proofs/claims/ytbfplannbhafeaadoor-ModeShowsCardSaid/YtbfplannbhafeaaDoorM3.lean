/-
  The walks of the bits that letters mean, of the digits, and of the actions.
-/
import Derived.Test.YtbfplannbhafeaaDoorM2
namespace Go.Proofs.YtbfplannbhafeaaDoor
open Go.RowKit

theorem letsN_take {l : List UInt8} {k : Nat} (hk : k < l.length) (c : Who) (any : Bool) (out : Nat) : letsN c any out (l.take (k + 1)) = letsN c any out (l.take k) ||| letN c any (l.getD k 0) := by
  rw [letsN, letsN, List.take_add_one, List.foldl_append]
  simp [List.getD, List.getElem?_eq_getElem hk]

theorem or_own (c : Who) (o k : Nat) (ho : o < 4096) (hk : k < 4096) : bits BinOp.or .i64 (o : Int) (bits BinOp.and .i64 ((c.own : Nat) : Int) (k : Int)) = ((o ||| (c.own &&& k) : Nat) : Int) := by
  have h := own_le c
  rw [bits_and64 _ _ (by omega) (by omega), bits_or64 _ _ (by omega) (Nat.lt_of_le_of_lt Nat.and_le_left (by omega))]

theorem any_test (m : Nat) (hm : m < 4096) (dir : Bool) (b : Bool) (hd : dir = false) (hb : anyB dir m = b) : (bits BinOp.and .i64 (m : Int) 73 != 0) = b := by
  rw [show (73 : Int) = ((73 : Nat) : Int) from rfl, bits_and64 _ _ (by omega) (by omega), ← hb, anyB, hd, Bool.false_or, Bool.eq_iff_iff, bne_iff_ne, bne_iff_ne]
  omega

set_option maxHeartbeats 2000000 in
set_option maxRecDepth 100000 in
theorem bits_any (c : Who) (named : Bool) (s : ByteArray) (m : Nat) (dir : Bool) (w : World) (hs : s.size ≤ 100000) (hm : m < 4096) :
    Calls Tryd.prog 29 #[.agg #[.int .i64 (c.own : Nat), .int .i64 (c.bes : Nat), .bool named], .string s, .int .i64 m, .bool dir] w fun e w' => e = .returned (.tuple #[.int .i64 (letsN c (anyB dir m) 0 ((L s).takeWhile isLet) : Nat), .string (S ((L s).dropWhile isLet))]) ∧ Below w.heap.size w w' := by
  obtain ⟨w1, hw1⟩ : ∃ w1, w1 = w.alloc (.cells #[.int .i64 (c.own : Nat), .int .i64 (c.bes : Nat), .bool named] 41) := ⟨_, rfl⟩
  have hb1 : Below w.heap.size w w1 := by rw [hw1]; exact Below.alloc (Below.refl _ _) (Nat.le_refl _) _
  have hc : ClauseAt w1 w.heap.size c named := by rw [hw1]; exact ⟨by simp, by simp, by simp, by simp, by simp, by simp⟩
  obtain ⟨x1, x2, x3, x4, x5, x6⟩ := hc
  obtain ⟨any, hany⟩ : ∃ any, any = anyB dir m := ⟨_, rfl⟩
  rw [← hany]
  have HANY := Lib.hid hany
  have HB1 := Lib.hid hb1
  have HW1 := Lib.hid hw1
  clear hany hb1 hw1
  go_enter Tryd.func29, Tryd.ntmps29
  go_wp2_with fail
  rw [← HW1.out]
  go_loop [10, 11] (fun o i => ∃ (k n : Nat), k ≤ s.size ∧ o = .int .i64 n ∧ i = .int .i64 k ∧ n < 4096 ∧ n = letsN c any 0 ((L s).take k) ∧ ∀ x ∈ (L s).take k, isLet x = true) (fun _ i => s.size - (intOf i).toNat)
  case atStart => exact ⟨0, 0, Nat.zero_le _, rfl, rfl, by omega, rfl, fun x hx => by simp at hx⟩
  case round =>
    obtain ⟨k, n, hk, rfl, rfl, hn, hno, hall⟩ := hrel
    have HALL := Lib.hid hall
    have HN := Lib.hid hno
    have HN4 := Lib.hid hn
    clear hall hno hn
    by_cases hlt : k < s.size
    · have i0 := run_idx (P := Tryd.prog) (k := .i64) Tryd.underlying9 s (k : Int) k rfl hlt
      obtain ⟨d, hd⟩ : ∃ d, d = (L s).getD k 0 := ⟨_, rfl⟩
      rw [← hd] at i0
      obtain ⟨v, hv, hv0⟩ := indexOf_mem d [114, 119, 120, 88, 115, 116] _ (isLet_eq d)
      have C := Lib.hid (fun w => indexAt_any (S [114, 119, 120, 88, 115, 116]) d v w hv)
      cases hw : isLet d with
      | true =>
        rw [hw] at hv0
        replace hv0 := of_decide_eq_true hv0
        have HALL2 := Lib.hid (take_all_succ (show k < (L s).length from hlt) HALL.out (by rw [← hd]; exact hw))
        have HF : Hid ((n ||| letN c any d) = letsN c any 0 ((L s).take (k + 1))) := Lib.hid (by rw [letsN_take (show k < (L s).length from hlt), ← HN.out, hd])
        have HLT : Hid ((n ||| letN c any d) < 4096) := Lib.hid (Nat.or_lt_two_pow (n := 12) HN4.out (letN_le c any d))
        clear hd hv
        by_cases h1 : d = 114
        · subst h1
          clear hw
          go_wp2_with fail
          refine (C.out _).mono ?_
          rintro e w1 ⟨rfl, rfl⟩
          go_wp2_with fail
          go_round
          case rel => exact ⟨k + 1, _, by omega, congrArg (Value.int .i64) (or_own c n 292 HN4.out (by decide)), by go_num, HLT.out, HF.out, HALL2.out⟩
          case measure => simp [intOf]; omega
        · by_cases h2 : d = 119
          · subst h2
            clear hw h1
            go_wp2_with fail
            refine (C.out _).mono ?_
            rintro e w1 ⟨rfl, rfl⟩
            go_wp2_with fail
            go_round
            case rel => exact ⟨k + 1, _, by omega, congrArg (Value.int .i64) (or_own c n 146 HN4.out (by decide)), by go_num, HLT.out, HF.out, HALL2.out⟩
            case measure => simp [intOf]; omega
          · by_cases h3 : d = 120
            · subst h3
              clear hw h1 h2
              go_wp2_with fail
              refine (C.out _).mono ?_
              rintro e w1 ⟨rfl, rfl⟩
              go_wp2_with fail
              go_round
              case rel => exact ⟨k + 1, _, by omega, congrArg (Value.int .i64) (or_own c n 73 HN4.out (by decide)), by go_num, HLT.out, HF.out, HALL2.out⟩
              case measure => simp [intOf]; omega
            · by_cases h4 : d = 88
              · subst h4
                clear hw h1 h2 h3
                cases hdir : dir with
                | true =>
                  have ha : any = true := by rw [HANY.out, anyB, hdir]; rfl
                  subst hdir ha
                  go_wp2_with fail
                  refine (C.out _).mono ?_
                  rintro e w1 ⟨rfl, rfl⟩
                  go_wp2_with fail
                  go_round
                  case rel => exact ⟨k + 1, _, by omega, congrArg (Value.int .i64) (or_own c n 73 HN4.out (by decide)), by go_num, HLT.out, HF.out, HALL2.out⟩
                  case measure => simp [intOf]; omega
                | false =>
                  cases ha : any with
                  | true =>
                    have ht := any_test m hm dir true hdir (by rw [← HANY.out, ha])
                    subst hdir ha
                    go_wp2_with fail
                    refine (C.out _).mono ?_
                    rintro e w1 ⟨rfl, rfl⟩
                    go_wp2_with fail
                    go_round
                    case rel => exact ⟨k + 1, _, by omega, congrArg (Value.int .i64) (or_own c n 73 HN4.out (by decide)), by go_num, HLT.out, HF.out, HALL2.out⟩
                    case measure => simp [intOf]; omega
                  | false =>
                    have ht := any_test m hm dir false hdir (by rw [← HANY.out, ha])
                    subst hdir ha
                    go_wp2_with fail
                    refine (C.out _).mono ?_
                    rintro e w1 ⟨rfl, rfl⟩
                    go_wp2_with fail
                    go_round
                    case rel => exact ⟨k + 1, _, by omega, congrArg (Value.int .i64) (show ((n : Nat) : Int) = _ by rw [show letN c false 88 = 0 from rfl, Nat.or_zero]), by go_num, HLT.out, HF.out, HALL2.out⟩
                    case measure => simp [intOf]; omega
              · by_cases h5 : d = 115
                · subst h5
                  clear hw h1 h2 h3 h4
                  go_wp2_with fail
                  refine (C.out _).mono ?_
                  rintro e w1 ⟨rfl, rfl⟩
                  go_wp2_with fail
                  go_round
                  case rel => exact ⟨k + 1, _, by omega, congrArg (Value.int .i64) (bits_or64 _ _ (by have := HN4.out; omega) (by have := bes_le c; omega)), by go_num, HLT.out, HF.out, HALL2.out⟩
                  case measure => simp [intOf]; omega
                · have h6 : d = 116 := by simpa [isLet, h1, h2, h3, h4, h5] using hw
                  subst h6
                  clear hw h1 h2 h3 h4 h5
                  go_wp2_with fail
                  refine (C.out _).mono ?_
                  rintro e w1 ⟨rfl, rfl⟩
                  go_wp2_with fail
                  go_round
                  case rel => exact ⟨k + 1, _, by omega, congrArg (Value.int .i64) (bits_or64 _ 512 (by have := HN4.out; omega) (by decide)), by go_num, HLT.out, HF.out, HALL2.out⟩
                  case measure => simp [intOf]; omega
      | false =>
        rw [hw] at hv0
        replace hv0 := of_decide_eq_false hv0
        have hend := while_at (p := isLet) (l := L s) (k := k) (by rw [L_size]; omega) HALL.out (fun _ => by rw [← hd]; exact hw)
        have HEND := Lib.hid hend
        have sl := run_sl_from (P := Tryd.prog) Tryd.underlying9 s (k : Int) k rfl (by omega)
        clear hd hv hw hend
        go_wp2_with fail
        refine (C.out _).mono ?_
        rintro e w1 ⟨rfl, rfl⟩
        go_wp2_with fail
        go_quiet (fail)
        go_wp2_with fail
        go_ret2
        exact ⟨by rw [HEND.out.1, HEND.out.2, ← HN.out, S_extract_from]; rfl, below_drewN HB1.out nq⟩
    · have hend := while_at (p := isLet) (l := L s) (k := k) (by rw [L_size]; omega) HALL.out (fun h => by rw [L_size] at h; omega)
      have HEND := Lib.hid hend
      have sl := run_sl_from (P := Tryd.prog) Tryd.underlying9 s (k : Int) k rfl (by omega)
      clear hend
      go_wp2_with fail
      go_quiet (fail)
      go_wp2_with fail
      go_ret2
      exact ⟨by rw [HEND.out.1, HEND.out.2, ← HN.out, S_extract_from]; rfl, below_drewN HB1.out nq⟩
end Go.Proofs.YtbfplannbhafeaaDoor
