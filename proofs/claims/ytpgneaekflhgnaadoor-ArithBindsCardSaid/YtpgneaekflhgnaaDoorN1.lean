/-
  ParseUint at the bases 8, 10, 16, of letters and digits alone (pu.pat written out thrice).
-/
import Derived.Test.YtpgneaekflhgnaaDoorR2
import Derived.Test.YtpgneaekflhgnaaDoorShelf
import Derived.Lib.ConvBytes
import Derived.Lib.AtoiAllMem
import Derived.BigGuard
import Derived.Laws.Closers25
import Derived.Laws.Closers25b
namespace Go.Proofs.YtpgneaekflhgnaaDoor
open Go.RowKit

/-- What ParseUint says of digits of a base. -/
def PuEnd (base : Nat) (l : List UInt8) : Lib.NumEnd Nat → Prop
  | .ok n => okD base l = true ∧ valB base l = n ∧ n < 18446744073709551616
  | _ => readB base l = none
theorem let_not {c : UInt8} (h : letB c = true) (hd : ¬ (48 ≤ c.toNat ∧ c.toNat ≤ 57)) : 65 ≤ c.toNat ∧ (((c.toNat : Nat) : Int) == 95) = false := by
  simp only [letB, Bool.or_eq_true, Bool.and_eq_true, decide_eq_true_eq] at h
  refine ⟨by omega, ?_⟩
  simp only [beq_eq_false_iff_ne, ne_eq]
  omega
set_option maxRecDepth 100000 in
theorem or_low {c : UInt8} (h : letB c = true) (hd : ¬ (48 ≤ c.toNat ∧ c.toNat ≤ 57)) : ∃ lo : Int, bits .or .u8 (c.toNat : Int) 32 = lo ∧ 97 ≤ lo ∧ lo ≤ 122 ∧ (digV c : Int) = lo - 97 + 10 := by
  have H : ∀ n : Nat, n < 256 → (97 ≤ n ∧ n ≤ 122) ∨ (65 ≤ n ∧ n ≤ 90) → bits .or .u8 (n : Int) 32 = (if 97 ≤ n then (n : Int) else (n : Int) + 32) := by decide
  have hc := c.toNat_lt
  simp only [letB, Bool.or_eq_true, Bool.and_eq_true, decide_eq_true_eq] at h
  have hr : (97 ≤ c.toNat ∧ c.toNat ≤ 122) ∨ (65 ≤ c.toNat ∧ c.toNat ≤ 90) := by omega
  refine ⟨_, H c.toNat hc hr, ?_, ?_, ?_⟩
  · split <;> omega
  · split <;> omega
  · rw [digV, if_neg hd]
    split <;> split <;> first | omega | (rw [if_pos (by omega)]; omega)

set_option maxHeartbeats 2000000 in
set_option maxRecDepth 100000 in
theorem pu8_any (t : ByteArray) (hne : t.size ≠ 0) (hmax : t.size ≤ 1000) (hlet : ∀ c ∈ L t, letB c = true) (w : World) :
    Calls Tryd.prog 46 #[.string t, .int .i64 8, .int .i64 64] w fun e w' => (∃ r, e = .returned (Lib.uintTuple 85 r) ∧ PuEnd 8 (L t) r) ∧ Below w.heap.size w w' := by
  have hemp : t.toList.isEmpty = false := by
    rw [← decide_eq_emptyBytes]
    exact decide_eq_false (fun h => hne (by rw [h]; rfl))
  have hcv := Lib.run_convert_string_bytes (P := Tryd.prog) w 9 63 5 t (u := .string) Tryd.underlying9 Tryd.underlying63 Tryd.underlying5
  have hB : ∀ j, j < t.size → (Lib.bytesWorld w 5 t).cell? ⟨w.heap.size, j, none⟩ = some (.int .u8 (t.data.toList.getD j 0).toNat) := fun j hj => Lib.bytesWorld_cell w 5 t j hj
  have HW : Hid (Below w.heap.size w (Lib.bytesWorld w 5 t)) := Lib.hid (Lib.bytesWorld_below _ _ _)
  obtain ⟨W1, hW1⟩ : ∃ W1, W1 = Lib.bytesWorld w 5 t := ⟨_, rfl⟩
  rw [← hW1] at hcv hB HW
  clear hW1
  obtain ⟨bs, hL⟩ : ∃ bs, bs = t.data.toList := ⟨_, rfl⟩
  have hLn : bs.length = t.size := by rw [hL]; rfl
  have hLt : L t = bs := hL.symm
  rw [← hL] at hB
  rw [hLt] at hlet ⊢
  clear hL hLt
  have hmv : IntKind.u64.wrap (IntKind.u64.wrap 18446744073709551616 - 1) = 18446744073709551615 := by
    rw [IntKind.wrap_u64, IntKind.wrap_u64]
    decide
  go_enter Tryd.func46, Tryd.ntmps46
  go_wp2
  go_loop [12, 13, 101] (fun vu vn vi => ∃ (k acc : Nat) (a : Int), vu = .bool false ∧ vn = .int .u64 a ∧ vi = .int .i64 k ∧ k ≤ t.size ∧ Hid (a = (acc : Int) ∧ acc < 18446744073709551616 ∧ okD 8 (bs.take k) = true ∧ valB 8 (bs.take k) = acc))
    (fun _ _ vi => t.size - (intOf vi).toNat)
  case atStart => exact ⟨0, 0, 0, rfl, rfl, rfl, by omega, rfl, by omega, rfl, rfl⟩
  case round =>
    obtain ⟨k, acc, a, rfl, rfl, rfl, hk, hh⟩ := hrel
    obtain ⟨ha, hacc, hok, hval⟩ := hh.out
    clear hh
    have a0 : 0 ≤ a := by omega
    have a1 : a < 18446744073709551616 := by omega
    by_cases hkn : k < t.size
    · have hc := hB k hkn
      have hdrop : bs.drop k = bs.getD k 0 :: bs.drop (k + 1) := drop_getD bs (by omega)
      have htake : bs.take (k + 1) = bs.take k ++ [bs.getD k 0] := by
        rw [List.take_add_one]
        simp [List.getD, List.getElem?_eq_getElem (show k < bs.length by omega)]
      have hmem : bs.getD k 0 ∈ bs := by
        simp [List.getD, List.getElem?_eq_getElem (show k < bs.length by omega)]
      have hall : bs.take k ++ bs.drop k = bs := List.take_append_drop k bs
      have hlc := hlet _ hmem
      have HNB : Hid (8 ≤ digV (bs.getD k 0) → readB 8 bs = none) := Lib.hid fun h => readB_not hmem h
      have HNG : Hid (9223372036854775808 ≤ valB 8 (bs.take (k + 1)) → readB 8 bs = none) := Lib.hid fun h => by
        have := readB_great (m := bs.drop (k + 1)) (by decide : 0 < 8) h
        rwa [List.take_append_drop] at this
      have HV : Hid (valB 8 (bs.take (k + 1)) = acc * 8 + digV (bs.getD k 0)) := Lib.hid (by rw [htake, valB_snoc, hval])
      have HO : Hid (okD 8 (bs.take (k + 1)) = decide (digV (bs.getD k 0) < 8)) := Lib.hid (by rw [htake, okD_snoc, hok]; rfl)
      generalize bs.getD k 0 = c at hc hlc HNB HNG HV HO
      have hc256 : c.toNat < 256 := c.toNat_lt
      have HC : Hid (letB c = true) := Lib.hid hlc
      clear hB hdrop htake hmem hall hlc hlet hok hval
      by_cases hdig : 48 ≤ c.toNat ∧ c.toNat ≤ 57
      · obtain ⟨hd0, hd1⟩ := hdig
        have hdv : digV c = c.toNat - 48 := by rw [digV, if_pos ⟨hd0, hd1⟩]
        by_cases hbase : 8 ≤ digV c
        · have hF := HNB.out hbase
          have HF := Lib.hid hF
          have ib : (8 : Int) ≤ ((c.toNat : Int) - 48) := by omega
          clear hF hacc ha HV HO HNB HNG
          go_wp2
          all_goals go_ret2
          all_goals exact ⟨⟨Lib.NumEnd.syntax, rfl, HF.out⟩, HW.out⟩
        · have ib : ((c.toNat : Int) - 48) < (8 : Int) := by omega
          have hVv := HV.out
          by_cases hcut : 2305843009213693952 ≤ acc
          · have HF : Hid (readB 8 bs = none) := Lib.hid (HNG.out (by rw [hVv]; omega))
            have icut : 2305843009213693952 ≤ a := by omega
            clear hcut hacc ha hVv HV HO HNB HNG hbase
            go_wp2
            all_goals go_ret2
            all_goals exact ⟨⟨.range, rfl, HF.out⟩, HW.out⟩
          · have icut : a < 2305843009213693952 := by omega
            by_cases hov : 18446744073709551616 ≤ acc * 8 + digV c
            · have HF : Hid (readB 8 bs = none) := Lib.hid (HNG.out (by rw [hVv]; omega))
              have iov : 18446744073709551616 ≤ a * 8 + ((c.toNat : Int) - 48) := by omega
              have hwr : IntKind.u64.wrap (a * 8 + ((c.toNat : Int) - 48)) = a * 8 + ((c.toNat : Int) - 48) - 18446744073709551616 := by
                rw [IntKind.wrap_u64]
                omega
              clear hcut hacc ha hVv HV HO HNB HNG hbase hov
              go_wp2
              all_goals go_ret2
              all_goals exact ⟨⟨.range, rfl, HF.out⟩, HW.out⟩
            · have iov : a * 8 + ((c.toNat : Int) - 48) < 18446744073709551616 := by omega
              have HN : Hid (a * 8 + ((c.toNat : Int) - 48) = ((acc * 8 + digV c : Nat) : Int) ∧ acc * 8 + digV c < 18446744073709551616 ∧ okD 8 (bs.take (k + 1)) = true ∧ valB 8 (bs.take (k + 1)) = acc * 8 + digV c) :=
                Lib.hid ⟨by omega, by omega, by rw [HO.out]; simp; omega, hVv⟩
              clear hcut hacc ha hVv HV HO HNB HNG hbase hov
              go_wp2
              all_goals refine ⟨⟨k + 1, acc * 8 + digV c, a * 8 + ((c.toNat : Int) - 48), rfl, (by first | rfl | (congr 1; omega)), (by first | rfl | (congr 1; omega)), by omega, HN⟩, by simp [intOf]; omega⟩
      · obtain ⟨hc65, h95⟩ := let_not (HC.out) hdig
        obtain ⟨lo, hlo, hl0, hl1, hdv⟩ : ∃ lo : Int, bits .or .u8 (c.toNat : Int) 32 = lo ∧ 97 ≤ lo ∧ lo ≤ 122 ∧ (digV c : Int) = lo - 97 + 10 := or_low (HC.out) hdig
        clear hdig
        by_cases hbase : 8 ≤ digV c
        · have hF := HNB.out hbase
          have HF := Lib.hid hF
          have ib : (8 : Int) ≤ (lo - 97 + 10) := by omega
          clear hF hacc ha HV HO HNB HNG
          go_wp2_with (go_at_fn 65; refine (Tryd.internal_strconv_lower _ _).mono ?_; rintro e w' ⟨rfl, rfl⟩)
          all_goals (refine (Tryd.internal_strconv_lower _ _).mono ?_; rintro e w' ⟨rfl, rfl⟩; go_wp2)
          all_goals go_ret2
          all_goals exact ⟨⟨Lib.NumEnd.syntax, rfl, HF.out⟩, HW.out⟩
        · have ib : (lo - 97 + 10) < (8 : Int) := by omega
          have hVv := HV.out
          by_cases hcut : 2305843009213693952 ≤ acc
          · have HF : Hid (readB 8 bs = none) := Lib.hid (HNG.out (by rw [hVv]; omega))
            have icut : 2305843009213693952 ≤ a := by omega
            clear hcut hacc ha hVv HV HO HNB HNG hbase
            go_wp2_with (go_at_fn 65; refine (Tryd.internal_strconv_lower _ _).mono ?_; rintro e w' ⟨rfl, rfl⟩)
            all_goals (refine (Tryd.internal_strconv_lower _ _).mono ?_; rintro e w' ⟨rfl, rfl⟩; go_wp2)
            all_goals go_ret2
            all_goals exact ⟨⟨.range, rfl, HF.out⟩, HW.out⟩
          · have icut : a < 2305843009213693952 := by omega
            by_cases hov : 18446744073709551616 ≤ acc * 8 + digV c
            · have HF : Hid (readB 8 bs = none) := Lib.hid (HNG.out (by rw [hVv]; omega))
              have iov : 18446744073709551616 ≤ a * 8 + (lo - 97 + 10) := by omega
              have hwr : IntKind.u64.wrap (a * 8 + (lo - 97 + 10)) = a * 8 + (lo - 97 + 10) - 18446744073709551616 := by
                rw [IntKind.wrap_u64]
                omega
              clear hcut hacc ha hVv HV HO HNB HNG hbase hov
              go_wp2_with (go_at_fn 65; refine (Tryd.internal_strconv_lower _ _).mono ?_; rintro e w' ⟨rfl, rfl⟩)
              all_goals (refine (Tryd.internal_strconv_lower _ _).mono ?_; rintro e w' ⟨rfl, rfl⟩; go_wp2)
              all_goals go_ret2
              all_goals exact ⟨⟨.range, rfl, HF.out⟩, HW.out⟩
            · have iov : a * 8 + (lo - 97 + 10) < 18446744073709551616 := by omega
              have HN : Hid (a * 8 + (lo - 97 + 10) = ((acc * 8 + digV c : Nat) : Int) ∧ acc * 8 + digV c < 18446744073709551616 ∧ okD 8 (bs.take (k + 1)) = true ∧ valB 8 (bs.take (k + 1)) = acc * 8 + digV c) :=
                Lib.hid ⟨by omega, by omega, by rw [HO.out]; simp; omega, hVv⟩
              clear hcut hacc ha hVv HV HO HNB HNG hbase hov
              go_wp2_with (go_at_fn 65; refine (Tryd.internal_strconv_lower _ _).mono ?_; rintro e w' ⟨rfl, rfl⟩)
              all_goals (refine (Tryd.internal_strconv_lower _ _).mono ?_; rintro e w' ⟨rfl, rfl⟩; go_wp2)
              all_goals refine ⟨⟨k + 1, acc * 8 + digV c, a * 8 + (lo - 97 + 10), rfl, (by first | rfl | (congr 1; omega)), (by first | rfl | (congr 1; omega)), by omega, HN⟩, by simp [intOf]; omega⟩
    · have hkk : k = t.size := by omega
      subst hkk
      rw [List.take_of_length_le (by omega)] at hok hval
      subst ha
      have HE := Lib.hid (And.intro hok (And.intro hval hacc))
      clear hacc hok hval hB hlet a0 a1
      go_wp2
      go_ret2
      exact ⟨⟨.ok acc, rfl, HE.out⟩, HW.out⟩

set_option maxHeartbeats 2000000 in
set_option maxRecDepth 100000 in
theorem pu10_any (t : ByteArray) (hne : t.size ≠ 0) (hmax : t.size ≤ 1000) (hlet : ∀ c ∈ L t, letB c = true) (w : World) :
    Calls Tryd.prog 46 #[.string t, .int .i64 10, .int .i64 64] w fun e w' => (∃ r, e = .returned (Lib.uintTuple 85 r) ∧ PuEnd 10 (L t) r) ∧ Below w.heap.size w w' := by
  have hemp : t.toList.isEmpty = false := by
    rw [← decide_eq_emptyBytes]
    exact decide_eq_false (fun h => hne (by rw [h]; rfl))
  have hcv := Lib.run_convert_string_bytes (P := Tryd.prog) w 9 63 5 t (u := .string) Tryd.underlying9 Tryd.underlying63 Tryd.underlying5
  have hB : ∀ j, j < t.size → (Lib.bytesWorld w 5 t).cell? ⟨w.heap.size, j, none⟩ = some (.int .u8 (t.data.toList.getD j 0).toNat) := fun j hj => Lib.bytesWorld_cell w 5 t j hj
  have HW : Hid (Below w.heap.size w (Lib.bytesWorld w 5 t)) := Lib.hid (Lib.bytesWorld_below _ _ _)
  obtain ⟨W1, hW1⟩ : ∃ W1, W1 = Lib.bytesWorld w 5 t := ⟨_, rfl⟩
  rw [← hW1] at hcv hB HW
  clear hW1
  obtain ⟨bs, hL⟩ : ∃ bs, bs = t.data.toList := ⟨_, rfl⟩
  have hLn : bs.length = t.size := by rw [hL]; rfl
  have hLt : L t = bs := hL.symm
  rw [← hL] at hB
  rw [hLt] at hlet ⊢
  clear hL hLt
  have hmv : IntKind.u64.wrap (IntKind.u64.wrap 18446744073709551616 - 1) = 18446744073709551615 := by
    rw [IntKind.wrap_u64, IntKind.wrap_u64]
    decide
  go_enter Tryd.func46, Tryd.ntmps46
  go_wp2
  go_loop [12, 13, 101] (fun vu vn vi => ∃ (k acc : Nat) (a : Int), vu = .bool false ∧ vn = .int .u64 a ∧ vi = .int .i64 k ∧ k ≤ t.size ∧ Hid (a = (acc : Int) ∧ acc < 18446744073709551616 ∧ okD 10 (bs.take k) = true ∧ valB 10 (bs.take k) = acc))
    (fun _ _ vi => t.size - (intOf vi).toNat)
  case atStart => exact ⟨0, 0, 0, rfl, rfl, rfl, by omega, rfl, by omega, rfl, rfl⟩
  case round =>
    obtain ⟨k, acc, a, rfl, rfl, rfl, hk, hh⟩ := hrel
    obtain ⟨ha, hacc, hok, hval⟩ := hh.out
    clear hh
    have a0 : 0 ≤ a := by omega
    have a1 : a < 18446744073709551616 := by omega
    by_cases hkn : k < t.size
    · have hc := hB k hkn
      have hdrop : bs.drop k = bs.getD k 0 :: bs.drop (k + 1) := drop_getD bs (by omega)
      have htake : bs.take (k + 1) = bs.take k ++ [bs.getD k 0] := by
        rw [List.take_add_one]
        simp [List.getD, List.getElem?_eq_getElem (show k < bs.length by omega)]
      have hmem : bs.getD k 0 ∈ bs := by
        simp [List.getD, List.getElem?_eq_getElem (show k < bs.length by omega)]
      have hall : bs.take k ++ bs.drop k = bs := List.take_append_drop k bs
      have hlc := hlet _ hmem
      have HNB : Hid (10 ≤ digV (bs.getD k 0) → readB 10 bs = none) := Lib.hid fun h => readB_not hmem h
      have HNG : Hid (9223372036854775808 ≤ valB 10 (bs.take (k + 1)) → readB 10 bs = none) := Lib.hid fun h => by
        have := readB_great (m := bs.drop (k + 1)) (by decide : 0 < 10) h
        rwa [List.take_append_drop] at this
      have HV : Hid (valB 10 (bs.take (k + 1)) = acc * 10 + digV (bs.getD k 0)) := Lib.hid (by rw [htake, valB_snoc, hval])
      have HO : Hid (okD 10 (bs.take (k + 1)) = decide (digV (bs.getD k 0) < 10)) := Lib.hid (by rw [htake, okD_snoc, hok]; rfl)
      generalize bs.getD k 0 = c at hc hlc HNB HNG HV HO
      have hc256 : c.toNat < 256 := c.toNat_lt
      have HC : Hid (letB c = true) := Lib.hid hlc
      clear hB hdrop htake hmem hall hlc hlet hok hval
      by_cases hdig : 48 ≤ c.toNat ∧ c.toNat ≤ 57
      · obtain ⟨hd0, hd1⟩ := hdig
        have hdv : digV c = c.toNat - 48 := by rw [digV, if_pos ⟨hd0, hd1⟩]
        by_cases hbase : 10 ≤ digV c
        · have hF := HNB.out hbase
          have HF := Lib.hid hF
          have ib : (10 : Int) ≤ ((c.toNat : Int) - 48) := by omega
          clear hF hacc ha HV HO HNB HNG
          go_wp2
          all_goals go_ret2
          all_goals exact ⟨⟨Lib.NumEnd.syntax, rfl, HF.out⟩, HW.out⟩
        · have ib : ((c.toNat : Int) - 48) < (10 : Int) := by omega
          have hVv := HV.out
          by_cases hcut : 1844674407370955162 ≤ acc
          · have HF : Hid (readB 10 bs = none) := Lib.hid (HNG.out (by rw [hVv]; omega))
            have icut : 1844674407370955162 ≤ a := by omega
            clear hcut hacc ha hVv HV HO HNB HNG hbase
            go_wp2
            all_goals go_ret2
            all_goals exact ⟨⟨.range, rfl, HF.out⟩, HW.out⟩
          · have icut : a < 1844674407370955162 := by omega
            by_cases hov : 18446744073709551616 ≤ acc * 10 + digV c
            · have HF : Hid (readB 10 bs = none) := Lib.hid (HNG.out (by rw [hVv]; omega))
              have iov : 18446744073709551616 ≤ a * 10 + ((c.toNat : Int) - 48) := by omega
              have hwr : IntKind.u64.wrap (a * 10 + ((c.toNat : Int) - 48)) = a * 10 + ((c.toNat : Int) - 48) - 18446744073709551616 := by
                rw [IntKind.wrap_u64]
                omega
              clear hcut hacc ha hVv HV HO HNB HNG hbase hov
              go_wp2
              all_goals go_ret2
              all_goals exact ⟨⟨.range, rfl, HF.out⟩, HW.out⟩
            · have iov : a * 10 + ((c.toNat : Int) - 48) < 18446744073709551616 := by omega
              have HN : Hid (a * 10 + ((c.toNat : Int) - 48) = ((acc * 10 + digV c : Nat) : Int) ∧ acc * 10 + digV c < 18446744073709551616 ∧ okD 10 (bs.take (k + 1)) = true ∧ valB 10 (bs.take (k + 1)) = acc * 10 + digV c) :=
                Lib.hid ⟨by omega, by omega, by rw [HO.out]; simp; omega, hVv⟩
              clear hcut hacc ha hVv HV HO HNB HNG hbase hov
              go_wp2
              all_goals refine ⟨⟨k + 1, acc * 10 + digV c, a * 10 + ((c.toNat : Int) - 48), rfl, (by first | rfl | (congr 1; omega)), (by first | rfl | (congr 1; omega)), by omega, HN⟩, by simp [intOf]; omega⟩
      · obtain ⟨hc65, h95⟩ := let_not (HC.out) hdig
        obtain ⟨lo, hlo, hl0, hl1, hdv⟩ : ∃ lo : Int, bits .or .u8 (c.toNat : Int) 32 = lo ∧ 97 ≤ lo ∧ lo ≤ 122 ∧ (digV c : Int) = lo - 97 + 10 := or_low (HC.out) hdig
        clear hdig
        by_cases hbase : 10 ≤ digV c
        · have hF := HNB.out hbase
          have HF := Lib.hid hF
          have ib : (10 : Int) ≤ (lo - 97 + 10) := by omega
          clear hF hacc ha HV HO HNB HNG
          go_wp2_with (go_at_fn 65; refine (Tryd.internal_strconv_lower _ _).mono ?_; rintro e w' ⟨rfl, rfl⟩)
          all_goals (refine (Tryd.internal_strconv_lower _ _).mono ?_; rintro e w' ⟨rfl, rfl⟩; go_wp2)
          all_goals go_ret2
          all_goals exact ⟨⟨Lib.NumEnd.syntax, rfl, HF.out⟩, HW.out⟩
        · have ib : (lo - 97 + 10) < (10 : Int) := by omega
          have hVv := HV.out
          by_cases hcut : 1844674407370955162 ≤ acc
          · have HF : Hid (readB 10 bs = none) := Lib.hid (HNG.out (by rw [hVv]; omega))
            have icut : 1844674407370955162 ≤ a := by omega
            clear hcut hacc ha hVv HV HO HNB HNG hbase
            go_wp2_with (go_at_fn 65; refine (Tryd.internal_strconv_lower _ _).mono ?_; rintro e w' ⟨rfl, rfl⟩)
            all_goals (refine (Tryd.internal_strconv_lower _ _).mono ?_; rintro e w' ⟨rfl, rfl⟩; go_wp2)
            all_goals go_ret2
            all_goals exact ⟨⟨.range, rfl, HF.out⟩, HW.out⟩
          · have icut : a < 1844674407370955162 := by omega
            by_cases hov : 18446744073709551616 ≤ acc * 10 + digV c
            · have HF : Hid (readB 10 bs = none) := Lib.hid (HNG.out (by rw [hVv]; omega))
              have iov : 18446744073709551616 ≤ a * 10 + (lo - 97 + 10) := by omega
              have hwr : IntKind.u64.wrap (a * 10 + (lo - 97 + 10)) = a * 10 + (lo - 97 + 10) - 18446744073709551616 := by
                rw [IntKind.wrap_u64]
                omega
              clear hcut hacc ha hVv HV HO HNB HNG hbase hov
              go_wp2_with (go_at_fn 65; refine (Tryd.internal_strconv_lower _ _).mono ?_; rintro e w' ⟨rfl, rfl⟩)
              all_goals (refine (Tryd.internal_strconv_lower _ _).mono ?_; rintro e w' ⟨rfl, rfl⟩; go_wp2)
              all_goals go_ret2
              all_goals exact ⟨⟨.range, rfl, HF.out⟩, HW.out⟩
            · have iov : a * 10 + (lo - 97 + 10) < 18446744073709551616 := by omega
              have HN : Hid (a * 10 + (lo - 97 + 10) = ((acc * 10 + digV c : Nat) : Int) ∧ acc * 10 + digV c < 18446744073709551616 ∧ okD 10 (bs.take (k + 1)) = true ∧ valB 10 (bs.take (k + 1)) = acc * 10 + digV c) :=
                Lib.hid ⟨by omega, by omega, by rw [HO.out]; simp; omega, hVv⟩
              clear hcut hacc ha hVv HV HO HNB HNG hbase hov
              go_wp2_with (go_at_fn 65; refine (Tryd.internal_strconv_lower _ _).mono ?_; rintro e w' ⟨rfl, rfl⟩)
              all_goals (refine (Tryd.internal_strconv_lower _ _).mono ?_; rintro e w' ⟨rfl, rfl⟩; go_wp2)
              all_goals refine ⟨⟨k + 1, acc * 10 + digV c, a * 10 + (lo - 97 + 10), rfl, (by first | rfl | (congr 1; omega)), (by first | rfl | (congr 1; omega)), by omega, HN⟩, by simp [intOf]; omega⟩
    · have hkk : k = t.size := by omega
      subst hkk
      rw [List.take_of_length_le (by omega)] at hok hval
      subst ha
      have HE := Lib.hid (And.intro hok (And.intro hval hacc))
      clear hacc hok hval hB hlet a0 a1
      go_wp2
      go_ret2
      exact ⟨⟨.ok acc, rfl, HE.out⟩, HW.out⟩

set_option maxHeartbeats 2000000 in
set_option maxRecDepth 100000 in
theorem pu16_any (t : ByteArray) (hne : t.size ≠ 0) (hmax : t.size ≤ 1000) (hlet : ∀ c ∈ L t, letB c = true) (w : World) :
    Calls Tryd.prog 46 #[.string t, .int .i64 16, .int .i64 64] w fun e w' => (∃ r, e = .returned (Lib.uintTuple 85 r) ∧ PuEnd 16 (L t) r) ∧ Below w.heap.size w w' := by
  have hemp : t.toList.isEmpty = false := by
    rw [← decide_eq_emptyBytes]
    exact decide_eq_false (fun h => hne (by rw [h]; rfl))
  have hcv := Lib.run_convert_string_bytes (P := Tryd.prog) w 9 63 5 t (u := .string) Tryd.underlying9 Tryd.underlying63 Tryd.underlying5
  have hB : ∀ j, j < t.size → (Lib.bytesWorld w 5 t).cell? ⟨w.heap.size, j, none⟩ = some (.int .u8 (t.data.toList.getD j 0).toNat) := fun j hj => Lib.bytesWorld_cell w 5 t j hj
  have HW : Hid (Below w.heap.size w (Lib.bytesWorld w 5 t)) := Lib.hid (Lib.bytesWorld_below _ _ _)
  obtain ⟨W1, hW1⟩ : ∃ W1, W1 = Lib.bytesWorld w 5 t := ⟨_, rfl⟩
  rw [← hW1] at hcv hB HW
  clear hW1
  obtain ⟨bs, hL⟩ : ∃ bs, bs = t.data.toList := ⟨_, rfl⟩
  have hLn : bs.length = t.size := by rw [hL]; rfl
  have hLt : L t = bs := hL.symm
  rw [← hL] at hB
  rw [hLt] at hlet ⊢
  clear hL hLt
  have hmv : IntKind.u64.wrap (IntKind.u64.wrap 18446744073709551616 - 1) = 18446744073709551615 := by
    rw [IntKind.wrap_u64, IntKind.wrap_u64]
    decide
  go_enter Tryd.func46, Tryd.ntmps46
  go_wp2
  go_loop [12, 13, 101] (fun vu vn vi => ∃ (k acc : Nat) (a : Int), vu = .bool false ∧ vn = .int .u64 a ∧ vi = .int .i64 k ∧ k ≤ t.size ∧ Hid (a = (acc : Int) ∧ acc < 18446744073709551616 ∧ okD 16 (bs.take k) = true ∧ valB 16 (bs.take k) = acc))
    (fun _ _ vi => t.size - (intOf vi).toNat)
  case atStart => exact ⟨0, 0, 0, rfl, rfl, rfl, by omega, rfl, by omega, rfl, rfl⟩
  case round =>
    obtain ⟨k, acc, a, rfl, rfl, rfl, hk, hh⟩ := hrel
    obtain ⟨ha, hacc, hok, hval⟩ := hh.out
    clear hh
    have a0 : 0 ≤ a := by omega
    have a1 : a < 18446744073709551616 := by omega
    by_cases hkn : k < t.size
    · have hc := hB k hkn
      have hdrop : bs.drop k = bs.getD k 0 :: bs.drop (k + 1) := drop_getD bs (by omega)
      have htake : bs.take (k + 1) = bs.take k ++ [bs.getD k 0] := by
        rw [List.take_add_one]
        simp [List.getD, List.getElem?_eq_getElem (show k < bs.length by omega)]
      have hmem : bs.getD k 0 ∈ bs := by
        simp [List.getD, List.getElem?_eq_getElem (show k < bs.length by omega)]
      have hall : bs.take k ++ bs.drop k = bs := List.take_append_drop k bs
      have hlc := hlet _ hmem
      have HNB : Hid (16 ≤ digV (bs.getD k 0) → readB 16 bs = none) := Lib.hid fun h => readB_not hmem h
      have HNG : Hid (9223372036854775808 ≤ valB 16 (bs.take (k + 1)) → readB 16 bs = none) := Lib.hid fun h => by
        have := readB_great (m := bs.drop (k + 1)) (by decide : 0 < 16) h
        rwa [List.take_append_drop] at this
      have HV : Hid (valB 16 (bs.take (k + 1)) = acc * 16 + digV (bs.getD k 0)) := Lib.hid (by rw [htake, valB_snoc, hval])
      have HO : Hid (okD 16 (bs.take (k + 1)) = decide (digV (bs.getD k 0) < 16)) := Lib.hid (by rw [htake, okD_snoc, hok]; rfl)
      generalize bs.getD k 0 = c at hc hlc HNB HNG HV HO
      have hc256 : c.toNat < 256 := c.toNat_lt
      have HC : Hid (letB c = true) := Lib.hid hlc
      clear hB hdrop htake hmem hall hlc hlet hok hval
      by_cases hdig : 48 ≤ c.toNat ∧ c.toNat ≤ 57
      · obtain ⟨hd0, hd1⟩ := hdig
        have hdv : digV c = c.toNat - 48 := by rw [digV, if_pos ⟨hd0, hd1⟩]
        by_cases hbase : 16 ≤ digV c
        · have hF := HNB.out hbase
          have HF := Lib.hid hF
          have ib : (16 : Int) ≤ ((c.toNat : Int) - 48) := by omega
          clear hF hacc ha HV HO HNB HNG
          go_wp2
          all_goals go_ret2
          all_goals exact ⟨⟨Lib.NumEnd.syntax, rfl, HF.out⟩, HW.out⟩
        · have ib : ((c.toNat : Int) - 48) < (16 : Int) := by omega
          have hVv := HV.out
          by_cases hcut : 1152921504606846976 ≤ acc
          · have HF : Hid (readB 16 bs = none) := Lib.hid (HNG.out (by rw [hVv]; omega))
            have icut : 1152921504606846976 ≤ a := by omega
            clear hcut hacc ha hVv HV HO HNB HNG hbase
            go_wp2
            all_goals go_ret2
            all_goals exact ⟨⟨.range, rfl, HF.out⟩, HW.out⟩
          · have icut : a < 1152921504606846976 := by omega
            by_cases hov : 18446744073709551616 ≤ acc * 16 + digV c
            · have HF : Hid (readB 16 bs = none) := Lib.hid (HNG.out (by rw [hVv]; omega))
              have iov : 18446744073709551616 ≤ a * 16 + ((c.toNat : Int) - 48) := by omega
              have hwr : IntKind.u64.wrap (a * 16 + ((c.toNat : Int) - 48)) = a * 16 + ((c.toNat : Int) - 48) - 18446744073709551616 := by
                rw [IntKind.wrap_u64]
                omega
              clear hcut hacc ha hVv HV HO HNB HNG hbase hov
              go_wp2
              all_goals go_ret2
              all_goals exact ⟨⟨.range, rfl, HF.out⟩, HW.out⟩
            · have iov : a * 16 + ((c.toNat : Int) - 48) < 18446744073709551616 := by omega
              have HN : Hid (a * 16 + ((c.toNat : Int) - 48) = ((acc * 16 + digV c : Nat) : Int) ∧ acc * 16 + digV c < 18446744073709551616 ∧ okD 16 (bs.take (k + 1)) = true ∧ valB 16 (bs.take (k + 1)) = acc * 16 + digV c) :=
                Lib.hid ⟨by omega, by omega, by rw [HO.out]; simp; omega, hVv⟩
              clear hcut hacc ha hVv HV HO HNB HNG hbase hov
              go_wp2
              all_goals refine ⟨⟨k + 1, acc * 16 + digV c, a * 16 + ((c.toNat : Int) - 48), rfl, (by first | rfl | (congr 1; omega)), (by first | rfl | (congr 1; omega)), by omega, HN⟩, by simp [intOf]; omega⟩
      · obtain ⟨hc65, h95⟩ := let_not (HC.out) hdig
        obtain ⟨lo, hlo, hl0, hl1, hdv⟩ : ∃ lo : Int, bits .or .u8 (c.toNat : Int) 32 = lo ∧ 97 ≤ lo ∧ lo ≤ 122 ∧ (digV c : Int) = lo - 97 + 10 := or_low (HC.out) hdig
        clear hdig
        by_cases hbase : 16 ≤ digV c
        · have hF := HNB.out hbase
          have HF := Lib.hid hF
          have ib : (16 : Int) ≤ (lo - 97 + 10) := by omega
          clear hF hacc ha HV HO HNB HNG
          go_wp2_with (go_at_fn 65; refine (Tryd.internal_strconv_lower _ _).mono ?_; rintro e w' ⟨rfl, rfl⟩)
          all_goals (refine (Tryd.internal_strconv_lower _ _).mono ?_; rintro e w' ⟨rfl, rfl⟩; go_wp2)
          all_goals go_ret2
          all_goals exact ⟨⟨Lib.NumEnd.syntax, rfl, HF.out⟩, HW.out⟩
        · have ib : (lo - 97 + 10) < (16 : Int) := by omega
          have hVv := HV.out
          by_cases hcut : 1152921504606846976 ≤ acc
          · have HF : Hid (readB 16 bs = none) := Lib.hid (HNG.out (by rw [hVv]; omega))
            have icut : 1152921504606846976 ≤ a := by omega
            clear hcut hacc ha hVv HV HO HNB HNG hbase
            go_wp2_with (go_at_fn 65; refine (Tryd.internal_strconv_lower _ _).mono ?_; rintro e w' ⟨rfl, rfl⟩)
            all_goals (refine (Tryd.internal_strconv_lower _ _).mono ?_; rintro e w' ⟨rfl, rfl⟩; go_wp2)
            all_goals go_ret2
            all_goals exact ⟨⟨.range, rfl, HF.out⟩, HW.out⟩
          · have icut : a < 1152921504606846976 := by omega
            by_cases hov : 18446744073709551616 ≤ acc * 16 + digV c
            · have HF : Hid (readB 16 bs = none) := Lib.hid (HNG.out (by rw [hVv]; omega))
              have iov : 18446744073709551616 ≤ a * 16 + (lo - 97 + 10) := by omega
              have hwr : IntKind.u64.wrap (a * 16 + (lo - 97 + 10)) = a * 16 + (lo - 97 + 10) - 18446744073709551616 := by
                rw [IntKind.wrap_u64]
                omega
              clear hcut hacc ha hVv HV HO HNB HNG hbase hov
              go_wp2_with (go_at_fn 65; refine (Tryd.internal_strconv_lower _ _).mono ?_; rintro e w' ⟨rfl, rfl⟩)
              all_goals (refine (Tryd.internal_strconv_lower _ _).mono ?_; rintro e w' ⟨rfl, rfl⟩; go_wp2)
              all_goals go_ret2
              all_goals exact ⟨⟨.range, rfl, HF.out⟩, HW.out⟩
            · have iov : a * 16 + (lo - 97 + 10) < 18446744073709551616 := by omega
              have HN : Hid (a * 16 + (lo - 97 + 10) = ((acc * 16 + digV c : Nat) : Int) ∧ acc * 16 + digV c < 18446744073709551616 ∧ okD 16 (bs.take (k + 1)) = true ∧ valB 16 (bs.take (k + 1)) = acc * 16 + digV c) :=
                Lib.hid ⟨by omega, by omega, by rw [HO.out]; simp; omega, hVv⟩
              clear hcut hacc ha hVv HV HO HNB HNG hbase hov
              go_wp2_with (go_at_fn 65; refine (Tryd.internal_strconv_lower _ _).mono ?_; rintro e w' ⟨rfl, rfl⟩)
              all_goals (refine (Tryd.internal_strconv_lower _ _).mono ?_; rintro e w' ⟨rfl, rfl⟩; go_wp2)
              all_goals refine ⟨⟨k + 1, acc * 16 + digV c, a * 16 + (lo - 97 + 10), rfl, (by first | rfl | (congr 1; omega)), (by first | rfl | (congr 1; omega)), by omega, HN⟩, by simp [intOf]; omega⟩
    · have hkk : k = t.size := by omega
      subst hkk
      rw [List.take_of_length_le (by omega)] at hok hval
      subst ha
      have HE := Lib.hid (And.intro hok (And.intro hval hacc))
      clear hacc hok hval hB hlet a0 a1
      go_wp2
      go_ret2
      exact ⟨⟨.ok acc, rfl, HE.out⟩, HW.out⟩

end Go.Proofs.YtpgneaekflhgnaaDoor
