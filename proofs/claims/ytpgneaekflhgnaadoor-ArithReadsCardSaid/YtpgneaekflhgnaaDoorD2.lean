/-
  The walk of the document's Read.
-/
import Derived.Test.YtpgneaekflhgnaaDoorA6
import Derived.Test.YtpgneaekflhgnaaDoorD1
namespace Go.Proofs.YtpgneaekflhgnaaDoor
open Go.RowKit

set_option maxHeartbeats 2000000 in
set_option maxRecDepth 100000 in
theorem rread_any (s : ByteArray) (w : World) (hs : s.size ≤ 1000) :
    Calls Tryd.prog 12 #[.string s] w fun e w' => e = .returned (readV (readL (L s))) ∧ w = w' := by
  by_cases h2 : 2 < s.size
  · obtain ⟨c, d, x, r, hl⟩ : ∃ c d x r, L s = c :: d :: x :: r := by
      have hz := L_size s
      rcases h : L s with _ | ⟨c, _ | ⟨d, _ | ⟨x, r⟩⟩⟩
      · rw [h] at hz; simp at hz; omega
      · rw [h] at hz; simp at hz; omega
      · rw [h] at hz; simp at hz; omega
      · exact ⟨c, d, x, r, rfl⟩
    have he : L (s.extract 0 2) = [c, d] := by rw [L_extract, hl]; rfl
    have he1 : L (s.extract 1 s.size) = d :: x :: r := by
      rw [L_extract, List.take_of_length_le (by simp [L_size]), hl]; rfl
    have he2 : L (s.extract 2 s.size) = x :: r := by
      rw [L_extract, List.take_of_length_le (by simp [L_size]), hl]; rfl
    have ix := fun W => run_idx (P := Tryd.prog) Tryd.underlying9 s (k := .i64) 0 0 rfl (by omega) W
    have h0 : (L s).getD 0 0 = c := by rw [hl]; rfl
    rw [h0] at ix
    have ix1 := fun W => run_idx (P := Tryd.prog) Tryd.underlying9 s (k := .i64) 1 1 rfl (by omega) W
    have h01 : (L s).getD 1 0 = d := by rw [hl]; rfl
    rw [h01] at ix1
    have b48 : ∀ x : UInt8, ∀ n : Nat, x.toNat ≠ n → (((x.toNat : Nat) : Int) == (n : Int)) = false := fun x n h => by rw [beq_eq_false_iff_ne]; omega
    have bne : ∀ x y : UInt8, x ≠ y → x.toNat ≠ y.toNat := fun x y h e => h (UInt8.toNat_inj.1 e)
    have hz1 : (s.extract 1 s.size).size ≤ 1000 := by have := extract_len s 1 s.size; omega
    have hz2 : (s.extract 2 s.size).size ≤ 1000 := by have := extract_len s 2 s.size; omega
    by_cases hc : c = 48
    · subst hc
      have i48 : ((((48 : UInt8).toNat : Nat) : Int) == 48) = true := by decide
      by_cases hx : d = 120
      · subst hx
        have heq : readL (L s) = readB 16 (L (s.extract 2 s.size)) := by rw [hl, he2]; simp [readL]
        have htz := hz2
        have j120 : ((((120 : UInt8).toNat : Nat) : Int) == 120) = true := by decide
        clear he1 he2 he hl hz1 h0 h01 b48 bne
        have HEQ : Hid (readL (L s) = readB 16 (L (s.extract 2 s.size))) := Lib.hid heq
        have HT : Hid ((s.extract 2 s.size).size ≤ 1000) := Lib.hid htz
        have HSZ : Hid ((s.extract 2 s.size).size = (s.size - 2)) := Lib.hid (by first | rfl | (rw [← L_size, L_extract, List.length_take, List.length_drop, L_size]; omega))
        have hz1000 : (s.size - 2) ≤ 1000 := by have h1 := HT.out; have h2 := HSZ.out; omega
        clear heq htz
        go_enter Tryd.func12, Tryd.ntmps12
        go_wp2_with fail
        go_loop [5, 6] (fun n i => ∃ (k acc : Nat) (a : Int), n = .int .u64 a ∧ i = .int .i64 k ∧ k ≤ (s.size - 2) ∧ Hid (a = (acc : Int) ∧ acc < 9223372036854775808 ∧ okD 16 ((L (s.extract 2 s.size)).take k) = true ∧ valB 16 ((L (s.extract 2 s.size)).take k) = acc)) (fun _ i => (s.size - 2) - (intOf i).toNat)
        case atStart => exact ⟨0, 0, 0, rfl, rfl, Nat.zero_le _, rfl, by omega, rfl, rfl⟩
        case round =>
          obtain ⟨k, acc, a, rfl, rfl, hk, hh⟩ := hrel
          obtain ⟨ha, hacc, hok, hval⟩ := hh.out
          clear hh
          have a0 : 0 ≤ a := by omega
          have a1 : a < 9223372036854775808 := by omega
          have hk1000 : k ≤ 1000 := Nat.le_trans hk hz1000
          by_cases hlt : k < (s.size - 2)
          · have hkt : k < (s.extract 2 s.size).size := by first | (rw [HSZ.out]; exact hlt) | exact hlt
            have hkl : k < (L (s.extract 2 s.size)).length := hkt
            have jx := fun W => run_idx (P := Tryd.prog) Tryd.underlying9 (s.extract 2 s.size) (k := .i64) (k : Int) k rfl hkt W
            have htake : (L (s.extract 2 s.size)).take (k + 1) = (L (s.extract 2 s.size)).take k ++ [(L (s.extract 2 s.size)).getD k 0] := by
              rw [List.take_add_one]
              simp [List.getD, List.getElem?_eq_getElem hkl]
            have hmem : (L (s.extract 2 s.size)).getD k 0 ∈ L (s.extract 2 s.size) := by
              simp [List.getD, List.getElem?_eq_getElem hkl]
            have HNB : Hid (16 ≤ digV ((L (s.extract 2 s.size)).getD k 0) → readL (L s) = none) := Lib.hid fun h => HEQ.out.trans (readB_not hmem h)
            have HNG : Hid (9223372036854775808 ≤ valB 16 ((L (s.extract 2 s.size)).take (k + 1)) → readL (L s) = none) := Lib.hid fun h => by
              have := readB_great (m := (L (s.extract 2 s.size)).drop (k + 1)) (by decide : 0 < 16) h
              rw [List.take_append_drop] at this
              exact HEQ.out.trans this
            have HV : Hid (valB 16 ((L (s.extract 2 s.size)).take (k + 1)) = acc * 16 + digV ((L (s.extract 2 s.size)).getD k 0)) := Lib.hid (by rw [htake, valB_snoc, hval])
            have HO : Hid (okD 16 ((L (s.extract 2 s.size)).take (k + 1)) = decide (digV ((L (s.extract 2 s.size)).getD k 0) < 16)) := Lib.hid (by rw [htake, okD_snoc, hok]; rfl)
            have HKN : Hid (k + 1 ≤ (s.size - 2)) := Lib.hid hlt
            generalize (L (s.extract 2 s.size)).getD k 0 = c at jx HNB HNG HV HO
            have C1 := Lib.hid (fun W => rdigit_any c W)
            obtain ⟨d, hd⟩ : ∃ d : Int, d = ((digV c : Nat) : Int) := ⟨_, rfl⟩
            rw [← hd] at C1
            have d0 : 0 ≤ d := by omega
            have d99 : d ≤ 99 := by
              rw [hd, digV]
              have hc := c.toNat_lt
              split
              · omega
              · split
                · omega
                · split <;> omega
            clear htake hmem hkl hok hval
            by_cases hb : 16 ≤ digV c
            · have HF := Lib.hid (HNB.out hb)
              have hbi : (16 : Int) ≤ d := by omega
              clear HNB HNG HV HO hacc ha hd hb
              go_wp2_with fail
              refine (C1.out _).mono ?_
              rintro e w' ⟨rfl, rfl⟩
              go_wp2_with fail
              go_ret2
              exact ⟨by rw [HF.out]; rfl, rfl⟩
            · have hbi : d < (16 : Int) := by omega
              by_cases hg : 9223372036854775808 ≤ acc * 16 + digV c
              · have HF := Lib.hid (HNG.out (by rw [HV.out]; exact hg))
                have hgi : (9223372036854775807 - d) / 16 < a := by omega
                clear HNB HNG HV HO hacc ha hd hb hg
                go_wp2_with fail
                refine (C1.out _).mono ?_
                rintro e w' ⟨rfl, rfl⟩
                go_wp2_with fail
                go_ret2
                exact ⟨by rw [HF.out]; rfl, rfl⟩
              · have hgi : a ≤ (9223372036854775807 - d) / 16 := by omega
                have HN : Hid (a * 16 + d = ((acc * 16 + digV c : Nat) : Int) ∧ acc * 16 + digV c < 9223372036854775808 ∧ okD 16 ((L (s.extract 2 s.size)).take (k + 1)) = true ∧ valB 16 ((L (s.extract 2 s.size)).take (k + 1)) = acc * 16 + digV c) :=
                  Lib.hid ⟨by omega, by omega, by rw [HO.out]; simp; omega, HV.out⟩
                have hv1 : IntKind.u64.wrap (a * 16) = a * 16 := by rw [IntKind.wrap_u64]; omega
                have hv2 : IntKind.u64.wrap (a * 16 + d) = a * 16 + d := by rw [IntKind.wrap_u64]; omega
                clear HNB HNG HV HO hacc ha hd hb hg
                go_wp2_with fail
                refine (C1.out _).mono ?_
                rintro e w' ⟨rfl, rfl⟩
                go_wp2_with fail
                refine ⟨⟨k + 1, _, a * 16 + d, (by first | rfl | (congr 1; omega)), (by first | go_num | rfl), HKN.out, HN⟩, by simp [intOf]; omega⟩
          · have hkk : k = (s.size - 2) := by omega
            have htk : (L (s.extract 2 s.size)).take k = L (s.extract 2 s.size) := List.take_of_length_le (by rw [L_size, hkk]; first | exact Nat.le_of_eq HSZ.out | exact Nat.le_refl _)
            rw [htk] at hok hval
            by_cases h0 : (s.size - 2) = 0
            · have HF : Hid (readL (L s) = none ∧ acc = 0) := Lib.hid (by
                have hl0 : L (s.extract 2 s.size) = [] := List.length_eq_zero_iff.1 (by rw [L_size]; first | (rw [HSZ.out]; exact h0) | exact h0)
                rw [hl0] at hval
                exact ⟨by rw [HEQ.out, hl0, readB_nil], hval.symm⟩)
              have hem : (s.extract 2 s.size).toList.isEmpty = true := by
                rw [isEmpty_L, List.isEmpty_iff, ← List.length_eq_zero_iff, L_size]; first | (rw [HSZ.out]; exact h0) | exact h0
              have ha2 : a = 0 := by have := HF.out.2; omega
              subst ha2
              clear hok hval hacc ha htk
              go_wp2_with fail
              go_ret2
              exact ⟨by rw [HF.out.1]; rfl, rfl⟩
            · have HF : Hid (readL (L s) = some acc ∧ a = (acc : Int)) := Lib.hid ⟨by
                rw [HEQ.out, readB_all (by intro h; apply h0; have := congrArg List.length h; rw [L_size] at this; first | (rw [HSZ.out] at this; exact this) | exact this) hok (by omega), hval], ha⟩
              have hem : (s.extract 2 s.size).toList.isEmpty = false := by
                rw [isEmpty_L]
                cases h : (L (s.extract 2 s.size)).isEmpty with
                | false => rfl
                | true =>
                  exfalso
                  apply h0
                  rw [List.isEmpty_iff, ← List.length_eq_zero_iff, L_size] at h
                  first | (rw [HSZ.out] at h; exact h) | exact h
              have hwa : IntKind.i64.wrap a = a := IntWalk.i64_in _ ⟨by omega, by omega⟩
              clear hok hval hacc ha htk
              go_wp2_with fail
              go_ret2
              exact ⟨by rw [HF.out.1]; show _ = Ending.returned (.tuple #[.int .i64 ((acc : Nat) : Int), .bool true]); rw [← HF.out.2]; rfl, rfl⟩
      · by_cases hX : d = 88
        · subst hX
          have heq : readL (L s) = readB 16 (L (s.extract 2 s.size)) := by rw [hl, he2]; simp [readL]
          have htz := hz2
          have j120 : ((((88 : UInt8).toNat : Nat) : Int) == 120) = false := by decide
          have j88 : ((((88 : UInt8).toNat : Nat) : Int) == 88) = true := by decide
          clear he1 he2 he hl hz1 h0 h01 b48 bne hx
          have HEQ : Hid (readL (L s) = readB 16 (L (s.extract 2 s.size))) := Lib.hid heq
          have HT : Hid ((s.extract 2 s.size).size ≤ 1000) := Lib.hid htz
          have HSZ : Hid ((s.extract 2 s.size).size = (s.size - 2)) := Lib.hid (by first | rfl | (rw [← L_size, L_extract, List.length_take, List.length_drop, L_size]; omega))
          have hz1000 : (s.size - 2) ≤ 1000 := by have h1 := HT.out; have h2 := HSZ.out; omega
          clear heq htz
          go_enter Tryd.func12, Tryd.ntmps12
          go_wp2_with fail
          go_loop [5, 6] (fun n i => ∃ (k acc : Nat) (a : Int), n = .int .u64 a ∧ i = .int .i64 k ∧ k ≤ (s.size - 2) ∧ Hid (a = (acc : Int) ∧ acc < 9223372036854775808 ∧ okD 16 ((L (s.extract 2 s.size)).take k) = true ∧ valB 16 ((L (s.extract 2 s.size)).take k) = acc)) (fun _ i => (s.size - 2) - (intOf i).toNat)
          case atStart => exact ⟨0, 0, 0, rfl, rfl, Nat.zero_le _, rfl, by omega, rfl, rfl⟩
          case round =>
            obtain ⟨k, acc, a, rfl, rfl, hk, hh⟩ := hrel
            obtain ⟨ha, hacc, hok, hval⟩ := hh.out
            clear hh
            have a0 : 0 ≤ a := by omega
            have a1 : a < 9223372036854775808 := by omega
            have hk1000 : k ≤ 1000 := Nat.le_trans hk hz1000
            by_cases hlt : k < (s.size - 2)
            · have hkt : k < (s.extract 2 s.size).size := by first | (rw [HSZ.out]; exact hlt) | exact hlt
              have hkl : k < (L (s.extract 2 s.size)).length := hkt
              have jx := fun W => run_idx (P := Tryd.prog) Tryd.underlying9 (s.extract 2 s.size) (k := .i64) (k : Int) k rfl hkt W
              have htake : (L (s.extract 2 s.size)).take (k + 1) = (L (s.extract 2 s.size)).take k ++ [(L (s.extract 2 s.size)).getD k 0] := by
                rw [List.take_add_one]
                simp [List.getD, List.getElem?_eq_getElem hkl]
              have hmem : (L (s.extract 2 s.size)).getD k 0 ∈ L (s.extract 2 s.size) := by
                simp [List.getD, List.getElem?_eq_getElem hkl]
              have HNB : Hid (16 ≤ digV ((L (s.extract 2 s.size)).getD k 0) → readL (L s) = none) := Lib.hid fun h => HEQ.out.trans (readB_not hmem h)
              have HNG : Hid (9223372036854775808 ≤ valB 16 ((L (s.extract 2 s.size)).take (k + 1)) → readL (L s) = none) := Lib.hid fun h => by
                have := readB_great (m := (L (s.extract 2 s.size)).drop (k + 1)) (by decide : 0 < 16) h
                rw [List.take_append_drop] at this
                exact HEQ.out.trans this
              have HV : Hid (valB 16 ((L (s.extract 2 s.size)).take (k + 1)) = acc * 16 + digV ((L (s.extract 2 s.size)).getD k 0)) := Lib.hid (by rw [htake, valB_snoc, hval])
              have HO : Hid (okD 16 ((L (s.extract 2 s.size)).take (k + 1)) = decide (digV ((L (s.extract 2 s.size)).getD k 0) < 16)) := Lib.hid (by rw [htake, okD_snoc, hok]; rfl)
              have HKN : Hid (k + 1 ≤ (s.size - 2)) := Lib.hid hlt
              generalize (L (s.extract 2 s.size)).getD k 0 = c at jx HNB HNG HV HO
              have C1 := Lib.hid (fun W => rdigit_any c W)
              obtain ⟨d, hd⟩ : ∃ d : Int, d = ((digV c : Nat) : Int) := ⟨_, rfl⟩
              rw [← hd] at C1
              have d0 : 0 ≤ d := by omega
              have d99 : d ≤ 99 := by
                rw [hd, digV]
                have hc := c.toNat_lt
                split
                · omega
                · split
                  · omega
                  · split <;> omega
              clear htake hmem hkl hok hval
              by_cases hb : 16 ≤ digV c
              · have HF := Lib.hid (HNB.out hb)
                have hbi : (16 : Int) ≤ d := by omega
                clear HNB HNG HV HO hacc ha hd hb
                go_wp2_with fail
                refine (C1.out _).mono ?_
                rintro e w' ⟨rfl, rfl⟩
                go_wp2_with fail
                go_ret2
                exact ⟨by rw [HF.out]; rfl, rfl⟩
              · have hbi : d < (16 : Int) := by omega
                by_cases hg : 9223372036854775808 ≤ acc * 16 + digV c
                · have HF := Lib.hid (HNG.out (by rw [HV.out]; exact hg))
                  have hgi : (9223372036854775807 - d) / 16 < a := by omega
                  clear HNB HNG HV HO hacc ha hd hb hg
                  go_wp2_with fail
                  refine (C1.out _).mono ?_
                  rintro e w' ⟨rfl, rfl⟩
                  go_wp2_with fail
                  go_ret2
                  exact ⟨by rw [HF.out]; rfl, rfl⟩
                · have hgi : a ≤ (9223372036854775807 - d) / 16 := by omega
                  have HN : Hid (a * 16 + d = ((acc * 16 + digV c : Nat) : Int) ∧ acc * 16 + digV c < 9223372036854775808 ∧ okD 16 ((L (s.extract 2 s.size)).take (k + 1)) = true ∧ valB 16 ((L (s.extract 2 s.size)).take (k + 1)) = acc * 16 + digV c) :=
                    Lib.hid ⟨by omega, by omega, by rw [HO.out]; simp; omega, HV.out⟩
                  have hv1 : IntKind.u64.wrap (a * 16) = a * 16 := by rw [IntKind.wrap_u64]; omega
                  have hv2 : IntKind.u64.wrap (a * 16 + d) = a * 16 + d := by rw [IntKind.wrap_u64]; omega
                  clear HNB HNG HV HO hacc ha hd hb hg
                  go_wp2_with fail
                  refine (C1.out _).mono ?_
                  rintro e w' ⟨rfl, rfl⟩
                  go_wp2_with fail
                  refine ⟨⟨k + 1, _, a * 16 + d, (by first | rfl | (congr 1; omega)), (by first | go_num | rfl), HKN.out, HN⟩, by simp [intOf]; omega⟩
            · have hkk : k = (s.size - 2) := by omega
              have htk : (L (s.extract 2 s.size)).take k = L (s.extract 2 s.size) := List.take_of_length_le (by rw [L_size, hkk]; first | exact Nat.le_of_eq HSZ.out | exact Nat.le_refl _)
              rw [htk] at hok hval
              by_cases h0 : (s.size - 2) = 0
              · have HF : Hid (readL (L s) = none ∧ acc = 0) := Lib.hid (by
                  have hl0 : L (s.extract 2 s.size) = [] := List.length_eq_zero_iff.1 (by rw [L_size]; first | (rw [HSZ.out]; exact h0) | exact h0)
                  rw [hl0] at hval
                  exact ⟨by rw [HEQ.out, hl0, readB_nil], hval.symm⟩)
                have hem : (s.extract 2 s.size).toList.isEmpty = true := by
                  rw [isEmpty_L, List.isEmpty_iff, ← List.length_eq_zero_iff, L_size]; first | (rw [HSZ.out]; exact h0) | exact h0
                have ha2 : a = 0 := by have := HF.out.2; omega
                subst ha2
                clear hok hval hacc ha htk
                go_wp2_with fail
                go_ret2
                exact ⟨by rw [HF.out.1]; rfl, rfl⟩
              · have HF : Hid (readL (L s) = some acc ∧ a = (acc : Int)) := Lib.hid ⟨by
                  rw [HEQ.out, readB_all (by intro h; apply h0; have := congrArg List.length h; rw [L_size] at this; first | (rw [HSZ.out] at this; exact this) | exact this) hok (by omega), hval], ha⟩
                have hem : (s.extract 2 s.size).toList.isEmpty = false := by
                  rw [isEmpty_L]
                  cases h : (L (s.extract 2 s.size)).isEmpty with
                  | false => rfl
                  | true =>
                    exfalso
                    apply h0
                    rw [List.isEmpty_iff, ← List.length_eq_zero_iff, L_size] at h
                    first | (rw [HSZ.out] at h; exact h) | exact h
                have hwa : IntKind.i64.wrap a = a := IntWalk.i64_in _ ⟨by omega, by omega⟩
                clear hok hval hacc ha htk
                go_wp2_with fail
                go_ret2
                exact ⟨by rw [HF.out.1]; show _ = Ending.returned (.tuple #[.int .i64 ((acc : Nat) : Int), .bool true]); rw [← HF.out.2]; rfl, rfl⟩
        · have heq : readL (L s) = readB 8 (L (s.extract 1 s.size)) := by rw [hl, he1]; simp [readL, hx, hX]
          have htz := hz1
          have j120 : (((d.toNat : Nat) : Int) == 120) = false := b48 d 120 (bne d 120 hx)
          have j88 : (((d.toNat : Nat) : Int) == 88) = false := b48 d 88 (bne d 88 hX)
          clear he1 he2 he hl hz2 h0 hx hX h01 b48 bne
          have HEQ : Hid (readL (L s) = readB 8 (L (s.extract 1 s.size))) := Lib.hid heq
          have HT : Hid ((s.extract 1 s.size).size ≤ 1000) := Lib.hid htz
          have HSZ : Hid ((s.extract 1 s.size).size = (s.size - 1)) := Lib.hid (by first | rfl | (rw [← L_size, L_extract, List.length_take, List.length_drop, L_size]; omega))
          have hz1000 : (s.size - 1) ≤ 1000 := by have h1 := HT.out; have h2 := HSZ.out; omega
          clear heq htz
          go_enter Tryd.func12, Tryd.ntmps12
          go_wp2_with fail
          go_loop [5, 6] (fun n i => ∃ (k acc : Nat) (a : Int), n = .int .u64 a ∧ i = .int .i64 k ∧ k ≤ (s.size - 1) ∧ Hid (a = (acc : Int) ∧ acc < 9223372036854775808 ∧ okD 8 ((L (s.extract 1 s.size)).take k) = true ∧ valB 8 ((L (s.extract 1 s.size)).take k) = acc)) (fun _ i => (s.size - 1) - (intOf i).toNat)
          case atStart => exact ⟨0, 0, 0, rfl, rfl, Nat.zero_le _, rfl, by omega, rfl, rfl⟩
          case round =>
            obtain ⟨k, acc, a, rfl, rfl, hk, hh⟩ := hrel
            obtain ⟨ha, hacc, hok, hval⟩ := hh.out
            clear hh
            have a0 : 0 ≤ a := by omega
            have a1 : a < 9223372036854775808 := by omega
            have hk1000 : k ≤ 1000 := Nat.le_trans hk hz1000
            by_cases hlt : k < (s.size - 1)
            · have hkt : k < (s.extract 1 s.size).size := by first | (rw [HSZ.out]; exact hlt) | exact hlt
              have hkl : k < (L (s.extract 1 s.size)).length := hkt
              have jx := fun W => run_idx (P := Tryd.prog) Tryd.underlying9 (s.extract 1 s.size) (k := .i64) (k : Int) k rfl hkt W
              have htake : (L (s.extract 1 s.size)).take (k + 1) = (L (s.extract 1 s.size)).take k ++ [(L (s.extract 1 s.size)).getD k 0] := by
                rw [List.take_add_one]
                simp [List.getD, List.getElem?_eq_getElem hkl]
              have hmem : (L (s.extract 1 s.size)).getD k 0 ∈ L (s.extract 1 s.size) := by
                simp [List.getD, List.getElem?_eq_getElem hkl]
              have HNB : Hid (8 ≤ digV ((L (s.extract 1 s.size)).getD k 0) → readL (L s) = none) := Lib.hid fun h => HEQ.out.trans (readB_not hmem h)
              have HNG : Hid (9223372036854775808 ≤ valB 8 ((L (s.extract 1 s.size)).take (k + 1)) → readL (L s) = none) := Lib.hid fun h => by
                have := readB_great (m := (L (s.extract 1 s.size)).drop (k + 1)) (by decide : 0 < 8) h
                rw [List.take_append_drop] at this
                exact HEQ.out.trans this
              have HV : Hid (valB 8 ((L (s.extract 1 s.size)).take (k + 1)) = acc * 8 + digV ((L (s.extract 1 s.size)).getD k 0)) := Lib.hid (by rw [htake, valB_snoc, hval])
              have HO : Hid (okD 8 ((L (s.extract 1 s.size)).take (k + 1)) = decide (digV ((L (s.extract 1 s.size)).getD k 0) < 8)) := Lib.hid (by rw [htake, okD_snoc, hok]; rfl)
              have HKN : Hid (k + 1 ≤ (s.size - 1)) := Lib.hid hlt
              generalize (L (s.extract 1 s.size)).getD k 0 = c at jx HNB HNG HV HO
              have C1 := Lib.hid (fun W => rdigit_any c W)
              obtain ⟨d, hd⟩ : ∃ d : Int, d = ((digV c : Nat) : Int) := ⟨_, rfl⟩
              rw [← hd] at C1
              have d0 : 0 ≤ d := by omega
              have d99 : d ≤ 99 := by
                rw [hd, digV]
                have hc := c.toNat_lt
                split
                · omega
                · split
                  · omega
                  · split <;> omega
              clear htake hmem hkl hok hval
              by_cases hb : 8 ≤ digV c
              · have HF := Lib.hid (HNB.out hb)
                have hbi : (8 : Int) ≤ d := by omega
                clear HNB HNG HV HO hacc ha hd hb
                go_wp2_with fail
                refine (C1.out _).mono ?_
                rintro e w' ⟨rfl, rfl⟩
                go_wp2_with fail
                go_ret2
                exact ⟨by rw [HF.out]; rfl, rfl⟩
              · have hbi : d < (8 : Int) := by omega
                by_cases hg : 9223372036854775808 ≤ acc * 8 + digV c
                · have HF := Lib.hid (HNG.out (by rw [HV.out]; exact hg))
                  have hgi : (9223372036854775807 - d) / 8 < a := by omega
                  clear HNB HNG HV HO hacc ha hd hb hg
                  go_wp2_with fail
                  refine (C1.out _).mono ?_
                  rintro e w' ⟨rfl, rfl⟩
                  go_wp2_with fail
                  go_ret2
                  exact ⟨by rw [HF.out]; rfl, rfl⟩
                · have hgi : a ≤ (9223372036854775807 - d) / 8 := by omega
                  have HN : Hid (a * 8 + d = ((acc * 8 + digV c : Nat) : Int) ∧ acc * 8 + digV c < 9223372036854775808 ∧ okD 8 ((L (s.extract 1 s.size)).take (k + 1)) = true ∧ valB 8 ((L (s.extract 1 s.size)).take (k + 1)) = acc * 8 + digV c) :=
                    Lib.hid ⟨by omega, by omega, by rw [HO.out]; simp; omega, HV.out⟩
                  have hv1 : IntKind.u64.wrap (a * 8) = a * 8 := by rw [IntKind.wrap_u64]; omega
                  have hv2 : IntKind.u64.wrap (a * 8 + d) = a * 8 + d := by rw [IntKind.wrap_u64]; omega
                  clear HNB HNG HV HO hacc ha hd hb hg
                  go_wp2_with fail
                  refine (C1.out _).mono ?_
                  rintro e w' ⟨rfl, rfl⟩
                  go_wp2_with fail
                  refine ⟨⟨k + 1, _, a * 8 + d, (by first | rfl | (congr 1; omega)), (by first | go_num | rfl), HKN.out, HN⟩, by simp [intOf]; omega⟩
            · have hkk : k = (s.size - 1) := by omega
              have htk : (L (s.extract 1 s.size)).take k = L (s.extract 1 s.size) := List.take_of_length_le (by rw [L_size, hkk]; first | exact Nat.le_of_eq HSZ.out | exact Nat.le_refl _)
              rw [htk] at hok hval
              by_cases h0 : (s.size - 1) = 0
              · have HF : Hid (readL (L s) = none ∧ acc = 0) := Lib.hid (by
                  have hl0 : L (s.extract 1 s.size) = [] := List.length_eq_zero_iff.1 (by rw [L_size]; first | (rw [HSZ.out]; exact h0) | exact h0)
                  rw [hl0] at hval
                  exact ⟨by rw [HEQ.out, hl0, readB_nil], hval.symm⟩)
                have hem : (s.extract 1 s.size).toList.isEmpty = true := by
                  rw [isEmpty_L, List.isEmpty_iff, ← List.length_eq_zero_iff, L_size]; first | (rw [HSZ.out]; exact h0) | exact h0
                have ha2 : a = 0 := by have := HF.out.2; omega
                subst ha2
                clear hok hval hacc ha htk
                go_wp2_with fail
                go_ret2
                exact ⟨by rw [HF.out.1]; rfl, rfl⟩
              · have HF : Hid (readL (L s) = some acc ∧ a = (acc : Int)) := Lib.hid ⟨by
                  rw [HEQ.out, readB_all (by intro h; apply h0; have := congrArg List.length h; rw [L_size] at this; first | (rw [HSZ.out] at this; exact this) | exact this) hok (by omega), hval], ha⟩
                have hem : (s.extract 1 s.size).toList.isEmpty = false := by
                  rw [isEmpty_L]
                  cases h : (L (s.extract 1 s.size)).isEmpty with
                  | false => rfl
                  | true =>
                    exfalso
                    apply h0
                    rw [List.isEmpty_iff, ← List.length_eq_zero_iff, L_size] at h
                    first | (rw [HSZ.out] at h; exact h) | exact h
                have hwa : IntKind.i64.wrap a = a := IntWalk.i64_in _ ⟨by omega, by omega⟩
                clear hok hval hacc ha htk
                go_wp2_with fail
                go_ret2
                exact ⟨by rw [HF.out.1]; show _ = Ending.returned (.tuple #[.int .i64 ((acc : Nat) : Int), .bool true]); rw [← HF.out.2]; rfl, rfl⟩
    · have heq : readL (L s) = readB 10 (L s) := by rw [hl]; simp [readL, hc]
      have htz := hs
      have i48 : (((c.toNat : Nat) : Int) == 48) = false := by
        rw [beq_eq_false_iff_ne]
        intro e
        exact hc (UInt8.toNat_inj.1 (by show c.toNat = 48; omega))
      clear he1 he2 he hl hz2 h0 hz1 hc h01 b48 bne
      have HEQ : Hid (readL (L s) = readB 10 (L (s))) := Lib.hid heq
      have HT : Hid ((s).size ≤ 1000) := Lib.hid htz
      have HSZ : Hid ((s).size = s.size) := Lib.hid (by first | rfl | (rw [← L_size, L_extract, List.length_take, List.length_drop, L_size]; omega))
      have hz1000 : s.size ≤ 1000 := by have h1 := HT.out; have h2 := HSZ.out; omega
      clear heq htz
      go_enter Tryd.func12, Tryd.ntmps12
      go_wp2_with fail
      go_loop [5, 6] (fun n i => ∃ (k acc : Nat) (a : Int), n = .int .u64 a ∧ i = .int .i64 k ∧ k ≤ s.size ∧ Hid (a = (acc : Int) ∧ acc < 9223372036854775808 ∧ okD 10 ((L (s)).take k) = true ∧ valB 10 ((L (s)).take k) = acc)) (fun _ i => s.size - (intOf i).toNat)
      case atStart => exact ⟨0, 0, 0, rfl, rfl, Nat.zero_le _, rfl, by omega, rfl, rfl⟩
      case round =>
        obtain ⟨k, acc, a, rfl, rfl, hk, hh⟩ := hrel
        obtain ⟨ha, hacc, hok, hval⟩ := hh.out
        clear hh
        have a0 : 0 ≤ a := by omega
        have a1 : a < 9223372036854775808 := by omega
        have hk1000 : k ≤ 1000 := Nat.le_trans hk hz1000
        by_cases hlt : k < s.size
        · have hkt : k < (s).size := by first | (rw [HSZ.out]; exact hlt) | exact hlt
          have hkl : k < (L (s)).length := hkt
          have jx := fun W => run_idx (P := Tryd.prog) Tryd.underlying9 (s) (k := .i64) (k : Int) k rfl hkt W
          have htake : (L (s)).take (k + 1) = (L (s)).take k ++ [(L (s)).getD k 0] := by
            rw [List.take_add_one]
            simp [List.getD, List.getElem?_eq_getElem hkl]
          have hmem : (L (s)).getD k 0 ∈ L (s) := by
            simp [List.getD, List.getElem?_eq_getElem hkl]
          have HNB : Hid (10 ≤ digV ((L (s)).getD k 0) → readL (L s) = none) := Lib.hid fun h => HEQ.out.trans (readB_not hmem h)
          have HNG : Hid (9223372036854775808 ≤ valB 10 ((L (s)).take (k + 1)) → readL (L s) = none) := Lib.hid fun h => by
            have := readB_great (m := (L (s)).drop (k + 1)) (by decide : 0 < 10) h
            rw [List.take_append_drop] at this
            exact HEQ.out.trans this
          have HV : Hid (valB 10 ((L (s)).take (k + 1)) = acc * 10 + digV ((L (s)).getD k 0)) := Lib.hid (by rw [htake, valB_snoc, hval])
          have HO : Hid (okD 10 ((L (s)).take (k + 1)) = decide (digV ((L (s)).getD k 0) < 10)) := Lib.hid (by rw [htake, okD_snoc, hok]; rfl)
          have HKN : Hid (k + 1 ≤ s.size) := Lib.hid hlt
          generalize (L (s)).getD k 0 = c at jx HNB HNG HV HO
          have C1 := Lib.hid (fun W => rdigit_any c W)
          obtain ⟨d, hd⟩ : ∃ d : Int, d = ((digV c : Nat) : Int) := ⟨_, rfl⟩
          rw [← hd] at C1
          have d0 : 0 ≤ d := by omega
          have d99 : d ≤ 99 := by
            rw [hd, digV]
            have hc := c.toNat_lt
            split
            · omega
            · split
              · omega
              · split <;> omega
          clear htake hmem hkl hok hval
          by_cases hb : 10 ≤ digV c
          · have HF := Lib.hid (HNB.out hb)
            have hbi : (10 : Int) ≤ d := by omega
            clear HNB HNG HV HO hacc ha hd hb
            go_wp2_with fail
            refine (C1.out _).mono ?_
            rintro e w' ⟨rfl, rfl⟩
            go_wp2_with fail
            go_ret2
            exact ⟨by rw [HF.out]; rfl, rfl⟩
          · have hbi : d < (10 : Int) := by omega
            by_cases hg : 9223372036854775808 ≤ acc * 10 + digV c
            · have HF := Lib.hid (HNG.out (by rw [HV.out]; exact hg))
              have hgi : (9223372036854775807 - d) / 10 < a := by omega
              clear HNB HNG HV HO hacc ha hd hb hg
              go_wp2_with fail
              refine (C1.out _).mono ?_
              rintro e w' ⟨rfl, rfl⟩
              go_wp2_with fail
              go_ret2
              exact ⟨by rw [HF.out]; rfl, rfl⟩
            · have hgi : a ≤ (9223372036854775807 - d) / 10 := by omega
              have HN : Hid (a * 10 + d = ((acc * 10 + digV c : Nat) : Int) ∧ acc * 10 + digV c < 9223372036854775808 ∧ okD 10 ((L (s)).take (k + 1)) = true ∧ valB 10 ((L (s)).take (k + 1)) = acc * 10 + digV c) :=
                Lib.hid ⟨by omega, by omega, by rw [HO.out]; simp; omega, HV.out⟩
              have hv1 : IntKind.u64.wrap (a * 10) = a * 10 := by rw [IntKind.wrap_u64]; omega
              have hv2 : IntKind.u64.wrap (a * 10 + d) = a * 10 + d := by rw [IntKind.wrap_u64]; omega
              clear HNB HNG HV HO hacc ha hd hb hg
              go_wp2_with fail
              refine (C1.out _).mono ?_
              rintro e w' ⟨rfl, rfl⟩
              go_wp2_with fail
              refine ⟨⟨k + 1, _, a * 10 + d, (by first | rfl | (congr 1; omega)), (by first | go_num | rfl), HKN.out, HN⟩, by simp [intOf]; omega⟩
        · have hkk : k = s.size := by omega
          have htk : (L (s)).take k = L (s) := List.take_of_length_le (by rw [L_size, hkk]; first | exact Nat.le_of_eq HSZ.out | exact Nat.le_refl _)
          rw [htk] at hok hval
          by_cases h0 : s.size = 0
          · have HF : Hid (readL (L s) = none ∧ acc = 0) := Lib.hid (by
              have hl0 : L (s) = [] := List.length_eq_zero_iff.1 (by rw [L_size]; first | (rw [HSZ.out]; exact h0) | exact h0)
              rw [hl0] at hval
              exact ⟨by rw [HEQ.out, hl0, readB_nil], hval.symm⟩)
            have hem : (s).toList.isEmpty = true := by
              rw [isEmpty_L, List.isEmpty_iff, ← List.length_eq_zero_iff, L_size]; first | (rw [HSZ.out]; exact h0) | exact h0
            have ha2 : a = 0 := by have := HF.out.2; omega
            subst ha2
            clear hok hval hacc ha htk
            go_wp2_with fail
            go_ret2
            exact ⟨by rw [HF.out.1]; rfl, rfl⟩
          · have HF : Hid (readL (L s) = some acc ∧ a = (acc : Int)) := Lib.hid ⟨by
              rw [HEQ.out, readB_all (by intro h; apply h0; have := congrArg List.length h; rw [L_size] at this; first | (rw [HSZ.out] at this; exact this) | exact this) hok (by omega), hval], ha⟩
            have hem : (s).toList.isEmpty = false := by
              rw [isEmpty_L]
              cases h : (L (s)).isEmpty with
              | false => rfl
              | true =>
                exfalso
                apply h0
                rw [List.isEmpty_iff, ← List.length_eq_zero_iff, L_size] at h
                first | (rw [HSZ.out] at h; exact h) | exact h
            have hwa : IntKind.i64.wrap a = a := IntWalk.i64_in _ ⟨by omega, by omega⟩
            clear hok hval hacc ha htk
            go_wp2_with fail
            go_ret2
            exact ⟨by rw [HF.out.1]; show _ = Ending.returned (.tuple #[.int .i64 ((acc : Nat) : Int), .bool true]); rw [← HF.out.2]; rfl, rfl⟩
  · by_cases h1 : 1 < s.size
    · obtain ⟨c, d, hl⟩ : ∃ c d, L s = [c, d] := by
        have hz := L_size s
        rcases h : L s with _ | ⟨c, _ | ⟨d, _ | ⟨x, r⟩⟩⟩
        · rw [h] at hz; simp at hz; omega
        · rw [h] at hz; simp at hz; omega
        · exact ⟨c, d, rfl⟩
        · rw [h] at hz; simp at hz; omega
      have he1 : L (s.extract 1 s.size) = [d] := by
        rw [L_extract, List.take_of_length_le (by simp [L_size]), hl]; rfl
      have ix := fun W => run_idx (P := Tryd.prog) Tryd.underlying9 s (k := .i64) 0 0 rfl (by omega) W
      have h0 : (L s).getD 0 0 = c := by rw [hl]; rfl
      rw [h0] at ix
      have hz1 : (s.extract 1 s.size).size ≤ 1000 := by have := extract_len s 1 s.size; omega
      by_cases hc : c = 48
      · subst hc
        have i48 : ((((48 : UInt8).toNat : Nat) : Int) == 48) = true := by decide
        have heq : readL (L s) = readB 8 (L (s.extract 1 s.size)) := by rw [hl, he1]; simp [readL]
        have htz := hz1
        clear he1 hl h0
        have HEQ : Hid (readL (L s) = readB 8 (L (s.extract 1 s.size))) := Lib.hid heq
        have HT : Hid ((s.extract 1 s.size).size ≤ 1000) := Lib.hid htz
        have HSZ : Hid ((s.extract 1 s.size).size = (s.size - 1)) := Lib.hid (by first | rfl | (rw [← L_size, L_extract, List.length_take, List.length_drop, L_size]; omega))
        have hz1000 : (s.size - 1) ≤ 1000 := by have h1 := HT.out; have h2 := HSZ.out; omega
        clear heq htz
        go_enter Tryd.func12, Tryd.ntmps12
        go_wp2_with fail
        go_loop [5, 6] (fun n i => ∃ (k acc : Nat) (a : Int), n = .int .u64 a ∧ i = .int .i64 k ∧ k ≤ (s.size - 1) ∧ Hid (a = (acc : Int) ∧ acc < 9223372036854775808 ∧ okD 8 ((L (s.extract 1 s.size)).take k) = true ∧ valB 8 ((L (s.extract 1 s.size)).take k) = acc)) (fun _ i => (s.size - 1) - (intOf i).toNat)
        case atStart => exact ⟨0, 0, 0, rfl, rfl, Nat.zero_le _, rfl, by omega, rfl, rfl⟩
        case round =>
          obtain ⟨k, acc, a, rfl, rfl, hk, hh⟩ := hrel
          obtain ⟨ha, hacc, hok, hval⟩ := hh.out
          clear hh
          have a0 : 0 ≤ a := by omega
          have a1 : a < 9223372036854775808 := by omega
          have hk1000 : k ≤ 1000 := Nat.le_trans hk hz1000
          by_cases hlt : k < (s.size - 1)
          · have hkt : k < (s.extract 1 s.size).size := by first | (rw [HSZ.out]; exact hlt) | exact hlt
            have hkl : k < (L (s.extract 1 s.size)).length := hkt
            have jx := fun W => run_idx (P := Tryd.prog) Tryd.underlying9 (s.extract 1 s.size) (k := .i64) (k : Int) k rfl hkt W
            have htake : (L (s.extract 1 s.size)).take (k + 1) = (L (s.extract 1 s.size)).take k ++ [(L (s.extract 1 s.size)).getD k 0] := by
              rw [List.take_add_one]
              simp [List.getD, List.getElem?_eq_getElem hkl]
            have hmem : (L (s.extract 1 s.size)).getD k 0 ∈ L (s.extract 1 s.size) := by
              simp [List.getD, List.getElem?_eq_getElem hkl]
            have HNB : Hid (8 ≤ digV ((L (s.extract 1 s.size)).getD k 0) → readL (L s) = none) := Lib.hid fun h => HEQ.out.trans (readB_not hmem h)
            have HNG : Hid (9223372036854775808 ≤ valB 8 ((L (s.extract 1 s.size)).take (k + 1)) → readL (L s) = none) := Lib.hid fun h => by
              have := readB_great (m := (L (s.extract 1 s.size)).drop (k + 1)) (by decide : 0 < 8) h
              rw [List.take_append_drop] at this
              exact HEQ.out.trans this
            have HV : Hid (valB 8 ((L (s.extract 1 s.size)).take (k + 1)) = acc * 8 + digV ((L (s.extract 1 s.size)).getD k 0)) := Lib.hid (by rw [htake, valB_snoc, hval])
            have HO : Hid (okD 8 ((L (s.extract 1 s.size)).take (k + 1)) = decide (digV ((L (s.extract 1 s.size)).getD k 0) < 8)) := Lib.hid (by rw [htake, okD_snoc, hok]; rfl)
            have HKN : Hid (k + 1 ≤ (s.size - 1)) := Lib.hid hlt
            generalize (L (s.extract 1 s.size)).getD k 0 = c at jx HNB HNG HV HO
            have C1 := Lib.hid (fun W => rdigit_any c W)
            obtain ⟨d, hd⟩ : ∃ d : Int, d = ((digV c : Nat) : Int) := ⟨_, rfl⟩
            rw [← hd] at C1
            have d0 : 0 ≤ d := by omega
            have d99 : d ≤ 99 := by
              rw [hd, digV]
              have hc := c.toNat_lt
              split
              · omega
              · split
                · omega
                · split <;> omega
            clear htake hmem hkl hok hval
            by_cases hb : 8 ≤ digV c
            · have HF := Lib.hid (HNB.out hb)
              have hbi : (8 : Int) ≤ d := by omega
              clear HNB HNG HV HO hacc ha hd hb
              go_wp2_with fail
              refine (C1.out _).mono ?_
              rintro e w' ⟨rfl, rfl⟩
              go_wp2_with fail
              go_ret2
              exact ⟨by rw [HF.out]; rfl, rfl⟩
            · have hbi : d < (8 : Int) := by omega
              by_cases hg : 9223372036854775808 ≤ acc * 8 + digV c
              · have HF := Lib.hid (HNG.out (by rw [HV.out]; exact hg))
                have hgi : (9223372036854775807 - d) / 8 < a := by omega
                clear HNB HNG HV HO hacc ha hd hb hg
                go_wp2_with fail
                refine (C1.out _).mono ?_
                rintro e w' ⟨rfl, rfl⟩
                go_wp2_with fail
                go_ret2
                exact ⟨by rw [HF.out]; rfl, rfl⟩
              · have hgi : a ≤ (9223372036854775807 - d) / 8 := by omega
                have HN : Hid (a * 8 + d = ((acc * 8 + digV c : Nat) : Int) ∧ acc * 8 + digV c < 9223372036854775808 ∧ okD 8 ((L (s.extract 1 s.size)).take (k + 1)) = true ∧ valB 8 ((L (s.extract 1 s.size)).take (k + 1)) = acc * 8 + digV c) :=
                  Lib.hid ⟨by omega, by omega, by rw [HO.out]; simp; omega, HV.out⟩
                have hv1 : IntKind.u64.wrap (a * 8) = a * 8 := by rw [IntKind.wrap_u64]; omega
                have hv2 : IntKind.u64.wrap (a * 8 + d) = a * 8 + d := by rw [IntKind.wrap_u64]; omega
                clear HNB HNG HV HO hacc ha hd hb hg
                go_wp2_with fail
                refine (C1.out _).mono ?_
                rintro e w' ⟨rfl, rfl⟩
                go_wp2_with fail
                refine ⟨⟨k + 1, _, a * 8 + d, (by first | rfl | (congr 1; omega)), (by first | go_num | rfl), HKN.out, HN⟩, by simp [intOf]; omega⟩
          · have hkk : k = (s.size - 1) := by omega
            have htk : (L (s.extract 1 s.size)).take k = L (s.extract 1 s.size) := List.take_of_length_le (by rw [L_size, hkk]; first | exact Nat.le_of_eq HSZ.out | exact Nat.le_refl _)
            rw [htk] at hok hval
            by_cases h0 : (s.size - 1) = 0
            · have HF : Hid (readL (L s) = none ∧ acc = 0) := Lib.hid (by
                have hl0 : L (s.extract 1 s.size) = [] := List.length_eq_zero_iff.1 (by rw [L_size]; first | (rw [HSZ.out]; exact h0) | exact h0)
                rw [hl0] at hval
                exact ⟨by rw [HEQ.out, hl0, readB_nil], hval.symm⟩)
              have hem : (s.extract 1 s.size).toList.isEmpty = true := by
                rw [isEmpty_L, List.isEmpty_iff, ← List.length_eq_zero_iff, L_size]; first | (rw [HSZ.out]; exact h0) | exact h0
              have ha2 : a = 0 := by have := HF.out.2; omega
              subst ha2
              clear hok hval hacc ha htk
              go_wp2_with fail
              go_ret2
              exact ⟨by rw [HF.out.1]; rfl, rfl⟩
            · have HF : Hid (readL (L s) = some acc ∧ a = (acc : Int)) := Lib.hid ⟨by
                rw [HEQ.out, readB_all (by intro h; apply h0; have := congrArg List.length h; rw [L_size] at this; first | (rw [HSZ.out] at this; exact this) | exact this) hok (by omega), hval], ha⟩
              have hem : (s.extract 1 s.size).toList.isEmpty = false := by
                rw [isEmpty_L]
                cases h : (L (s.extract 1 s.size)).isEmpty with
                | false => rfl
                | true =>
                  exfalso
                  apply h0
                  rw [List.isEmpty_iff, ← List.length_eq_zero_iff, L_size] at h
                  first | (rw [HSZ.out] at h; exact h) | exact h
              have hwa : IntKind.i64.wrap a = a := IntWalk.i64_in _ ⟨by omega, by omega⟩
              clear hok hval hacc ha htk
              go_wp2_with fail
              go_ret2
              exact ⟨by rw [HF.out.1]; show _ = Ending.returned (.tuple #[.int .i64 ((acc : Nat) : Int), .bool true]); rw [← HF.out.2]; rfl, rfl⟩
      · have i48 : (((c.toNat : Nat) : Int) == 48) = false := by
          rw [beq_eq_false_iff_ne]
          intro e
          exact hc (UInt8.toNat_inj.1 (by show c.toNat = 48; omega))
        have heq : readL (L s) = readB 10 (L s) := by rw [hl]; simp [readL, hc]
        have htz := hs
        clear he1 hl h0 hz1 hc
        have HEQ : Hid (readL (L s) = readB 10 (L (s))) := Lib.hid heq
        have HT : Hid ((s).size ≤ 1000) := Lib.hid htz
        have HSZ : Hid ((s).size = s.size) := Lib.hid (by first | rfl | (rw [← L_size, L_extract, List.length_take, List.length_drop, L_size]; omega))
        have hz1000 : s.size ≤ 1000 := by have h1 := HT.out; have h2 := HSZ.out; omega
        clear heq htz
        go_enter Tryd.func12, Tryd.ntmps12
        go_wp2_with fail
        go_loop [5, 6] (fun n i => ∃ (k acc : Nat) (a : Int), n = .int .u64 a ∧ i = .int .i64 k ∧ k ≤ s.size ∧ Hid (a = (acc : Int) ∧ acc < 9223372036854775808 ∧ okD 10 ((L (s)).take k) = true ∧ valB 10 ((L (s)).take k) = acc)) (fun _ i => s.size - (intOf i).toNat)
        case atStart => exact ⟨0, 0, 0, rfl, rfl, Nat.zero_le _, rfl, by omega, rfl, rfl⟩
        case round =>
          obtain ⟨k, acc, a, rfl, rfl, hk, hh⟩ := hrel
          obtain ⟨ha, hacc, hok, hval⟩ := hh.out
          clear hh
          have a0 : 0 ≤ a := by omega
          have a1 : a < 9223372036854775808 := by omega
          have hk1000 : k ≤ 1000 := Nat.le_trans hk hz1000
          by_cases hlt : k < s.size
          · have hkt : k < (s).size := by first | (rw [HSZ.out]; exact hlt) | exact hlt
            have hkl : k < (L (s)).length := hkt
            have jx := fun W => run_idx (P := Tryd.prog) Tryd.underlying9 (s) (k := .i64) (k : Int) k rfl hkt W
            have htake : (L (s)).take (k + 1) = (L (s)).take k ++ [(L (s)).getD k 0] := by
              rw [List.take_add_one]
              simp [List.getD, List.getElem?_eq_getElem hkl]
            have hmem : (L (s)).getD k 0 ∈ L (s) := by
              simp [List.getD, List.getElem?_eq_getElem hkl]
            have HNB : Hid (10 ≤ digV ((L (s)).getD k 0) → readL (L s) = none) := Lib.hid fun h => HEQ.out.trans (readB_not hmem h)
            have HNG : Hid (9223372036854775808 ≤ valB 10 ((L (s)).take (k + 1)) → readL (L s) = none) := Lib.hid fun h => by
              have := readB_great (m := (L (s)).drop (k + 1)) (by decide : 0 < 10) h
              rw [List.take_append_drop] at this
              exact HEQ.out.trans this
            have HV : Hid (valB 10 ((L (s)).take (k + 1)) = acc * 10 + digV ((L (s)).getD k 0)) := Lib.hid (by rw [htake, valB_snoc, hval])
            have HO : Hid (okD 10 ((L (s)).take (k + 1)) = decide (digV ((L (s)).getD k 0) < 10)) := Lib.hid (by rw [htake, okD_snoc, hok]; rfl)
            have HKN : Hid (k + 1 ≤ s.size) := Lib.hid hlt
            generalize (L (s)).getD k 0 = c at jx HNB HNG HV HO
            have C1 := Lib.hid (fun W => rdigit_any c W)
            obtain ⟨d, hd⟩ : ∃ d : Int, d = ((digV c : Nat) : Int) := ⟨_, rfl⟩
            rw [← hd] at C1
            have d0 : 0 ≤ d := by omega
            have d99 : d ≤ 99 := by
              rw [hd, digV]
              have hc := c.toNat_lt
              split
              · omega
              · split
                · omega
                · split <;> omega
            clear htake hmem hkl hok hval
            by_cases hb : 10 ≤ digV c
            · have HF := Lib.hid (HNB.out hb)
              have hbi : (10 : Int) ≤ d := by omega
              clear HNB HNG HV HO hacc ha hd hb
              go_wp2_with fail
              refine (C1.out _).mono ?_
              rintro e w' ⟨rfl, rfl⟩
              go_wp2_with fail
              go_ret2
              exact ⟨by rw [HF.out]; rfl, rfl⟩
            · have hbi : d < (10 : Int) := by omega
              by_cases hg : 9223372036854775808 ≤ acc * 10 + digV c
              · have HF := Lib.hid (HNG.out (by rw [HV.out]; exact hg))
                have hgi : (9223372036854775807 - d) / 10 < a := by omega
                clear HNB HNG HV HO hacc ha hd hb hg
                go_wp2_with fail
                refine (C1.out _).mono ?_
                rintro e w' ⟨rfl, rfl⟩
                go_wp2_with fail
                go_ret2
                exact ⟨by rw [HF.out]; rfl, rfl⟩
              · have hgi : a ≤ (9223372036854775807 - d) / 10 := by omega
                have HN : Hid (a * 10 + d = ((acc * 10 + digV c : Nat) : Int) ∧ acc * 10 + digV c < 9223372036854775808 ∧ okD 10 ((L (s)).take (k + 1)) = true ∧ valB 10 ((L (s)).take (k + 1)) = acc * 10 + digV c) :=
                  Lib.hid ⟨by omega, by omega, by rw [HO.out]; simp; omega, HV.out⟩
                have hv1 : IntKind.u64.wrap (a * 10) = a * 10 := by rw [IntKind.wrap_u64]; omega
                have hv2 : IntKind.u64.wrap (a * 10 + d) = a * 10 + d := by rw [IntKind.wrap_u64]; omega
                clear HNB HNG HV HO hacc ha hd hb hg
                go_wp2_with fail
                refine (C1.out _).mono ?_
                rintro e w' ⟨rfl, rfl⟩
                go_wp2_with fail
                refine ⟨⟨k + 1, _, a * 10 + d, (by first | rfl | (congr 1; omega)), (by first | go_num | rfl), HKN.out, HN⟩, by simp [intOf]; omega⟩
          · have hkk : k = s.size := by omega
            have htk : (L (s)).take k = L (s) := List.take_of_length_le (by rw [L_size, hkk]; first | exact Nat.le_of_eq HSZ.out | exact Nat.le_refl _)
            rw [htk] at hok hval
            by_cases h0 : s.size = 0
            · have HF : Hid (readL (L s) = none ∧ acc = 0) := Lib.hid (by
                have hl0 : L (s) = [] := List.length_eq_zero_iff.1 (by rw [L_size]; first | (rw [HSZ.out]; exact h0) | exact h0)
                rw [hl0] at hval
                exact ⟨by rw [HEQ.out, hl0, readB_nil], hval.symm⟩)
              have hem : (s).toList.isEmpty = true := by
                rw [isEmpty_L, List.isEmpty_iff, ← List.length_eq_zero_iff, L_size]; first | (rw [HSZ.out]; exact h0) | exact h0
              have ha2 : a = 0 := by have := HF.out.2; omega
              subst ha2
              clear hok hval hacc ha htk
              go_wp2_with fail
              go_ret2
              exact ⟨by rw [HF.out.1]; rfl, rfl⟩
            · have HF : Hid (readL (L s) = some acc ∧ a = (acc : Int)) := Lib.hid ⟨by
                rw [HEQ.out, readB_all (by intro h; apply h0; have := congrArg List.length h; rw [L_size] at this; first | (rw [HSZ.out] at this; exact this) | exact this) hok (by omega), hval], ha⟩
              have hem : (s).toList.isEmpty = false := by
                rw [isEmpty_L]
                cases h : (L (s)).isEmpty with
                | false => rfl
                | true =>
                  exfalso
                  apply h0
                  rw [List.isEmpty_iff, ← List.length_eq_zero_iff, L_size] at h
                  first | (rw [HSZ.out] at h; exact h) | exact h
              have hwa : IntKind.i64.wrap a = a := IntWalk.i64_in _ ⟨by omega, by omega⟩
              clear hok hval hacc ha htk
              go_wp2_with fail
              go_ret2
              exact ⟨by rw [HF.out.1]; show _ = Ending.returned (.tuple #[.int .i64 ((acc : Nat) : Int), .bool true]); rw [← HF.out.2]; rfl, rfl⟩
    · have heq : readL (L s) = readB 10 (L s) := by
        have hz := L_size s
        rcases h : L s with _ | ⟨c, _ | ⟨d, r⟩⟩
        · rw [readB_nil]; rfl
        · rfl
        · rw [h] at hz; simp at hz; omega
      have htz := hs
      have HEQ : Hid (readL (L s) = readB 10 (L (s))) := Lib.hid heq
      have HT : Hid ((s).size ≤ 1000) := Lib.hid htz
      have HSZ : Hid ((s).size = s.size) := Lib.hid (by first | rfl | (rw [← L_size, L_extract, List.length_take, List.length_drop, L_size]; omega))
      have hz1000 : s.size ≤ 1000 := by have h1 := HT.out; have h2 := HSZ.out; omega
      clear heq htz
      go_enter Tryd.func12, Tryd.ntmps12
      go_wp2_with fail
      go_loop [5, 6] (fun n i => ∃ (k acc : Nat) (a : Int), n = .int .u64 a ∧ i = .int .i64 k ∧ k ≤ s.size ∧ Hid (a = (acc : Int) ∧ acc < 9223372036854775808 ∧ okD 10 ((L (s)).take k) = true ∧ valB 10 ((L (s)).take k) = acc)) (fun _ i => s.size - (intOf i).toNat)
      case atStart => exact ⟨0, 0, 0, rfl, rfl, Nat.zero_le _, rfl, by omega, rfl, rfl⟩
      case round =>
        obtain ⟨k, acc, a, rfl, rfl, hk, hh⟩ := hrel
        obtain ⟨ha, hacc, hok, hval⟩ := hh.out
        clear hh
        have a0 : 0 ≤ a := by omega
        have a1 : a < 9223372036854775808 := by omega
        have hk1000 : k ≤ 1000 := Nat.le_trans hk hz1000
        by_cases hlt : k < s.size
        · have hkt : k < (s).size := by first | (rw [HSZ.out]; exact hlt) | exact hlt
          have hkl : k < (L (s)).length := hkt
          have jx := fun W => run_idx (P := Tryd.prog) Tryd.underlying9 (s) (k := .i64) (k : Int) k rfl hkt W
          have htake : (L (s)).take (k + 1) = (L (s)).take k ++ [(L (s)).getD k 0] := by
            rw [List.take_add_one]
            simp [List.getD, List.getElem?_eq_getElem hkl]
          have hmem : (L (s)).getD k 0 ∈ L (s) := by
            simp [List.getD, List.getElem?_eq_getElem hkl]
          have HNB : Hid (10 ≤ digV ((L (s)).getD k 0) → readL (L s) = none) := Lib.hid fun h => HEQ.out.trans (readB_not hmem h)
          have HNG : Hid (9223372036854775808 ≤ valB 10 ((L (s)).take (k + 1)) → readL (L s) = none) := Lib.hid fun h => by
            have := readB_great (m := (L (s)).drop (k + 1)) (by decide : 0 < 10) h
            rw [List.take_append_drop] at this
            exact HEQ.out.trans this
          have HV : Hid (valB 10 ((L (s)).take (k + 1)) = acc * 10 + digV ((L (s)).getD k 0)) := Lib.hid (by rw [htake, valB_snoc, hval])
          have HO : Hid (okD 10 ((L (s)).take (k + 1)) = decide (digV ((L (s)).getD k 0) < 10)) := Lib.hid (by rw [htake, okD_snoc, hok]; rfl)
          have HKN : Hid (k + 1 ≤ s.size) := Lib.hid hlt
          generalize (L (s)).getD k 0 = c at jx HNB HNG HV HO
          have C1 := Lib.hid (fun W => rdigit_any c W)
          obtain ⟨d, hd⟩ : ∃ d : Int, d = ((digV c : Nat) : Int) := ⟨_, rfl⟩
          rw [← hd] at C1
          have d0 : 0 ≤ d := by omega
          have d99 : d ≤ 99 := by
            rw [hd, digV]
            have hc := c.toNat_lt
            split
            · omega
            · split
              · omega
              · split <;> omega
          clear htake hmem hkl hok hval
          by_cases hb : 10 ≤ digV c
          · have HF := Lib.hid (HNB.out hb)
            have hbi : (10 : Int) ≤ d := by omega
            clear HNB HNG HV HO hacc ha hd hb
            go_wp2_with fail
            refine (C1.out _).mono ?_
            rintro e w' ⟨rfl, rfl⟩
            go_wp2_with fail
            go_ret2
            exact ⟨by rw [HF.out]; rfl, rfl⟩
          · have hbi : d < (10 : Int) := by omega
            by_cases hg : 9223372036854775808 ≤ acc * 10 + digV c
            · have HF := Lib.hid (HNG.out (by rw [HV.out]; exact hg))
              have hgi : (9223372036854775807 - d) / 10 < a := by omega
              clear HNB HNG HV HO hacc ha hd hb hg
              go_wp2_with fail
              refine (C1.out _).mono ?_
              rintro e w' ⟨rfl, rfl⟩
              go_wp2_with fail
              go_ret2
              exact ⟨by rw [HF.out]; rfl, rfl⟩
            · have hgi : a ≤ (9223372036854775807 - d) / 10 := by omega
              have HN : Hid (a * 10 + d = ((acc * 10 + digV c : Nat) : Int) ∧ acc * 10 + digV c < 9223372036854775808 ∧ okD 10 ((L (s)).take (k + 1)) = true ∧ valB 10 ((L (s)).take (k + 1)) = acc * 10 + digV c) :=
                Lib.hid ⟨by omega, by omega, by rw [HO.out]; simp; omega, HV.out⟩
              have hv1 : IntKind.u64.wrap (a * 10) = a * 10 := by rw [IntKind.wrap_u64]; omega
              have hv2 : IntKind.u64.wrap (a * 10 + d) = a * 10 + d := by rw [IntKind.wrap_u64]; omega
              clear HNB HNG HV HO hacc ha hd hb hg
              go_wp2_with fail
              refine (C1.out _).mono ?_
              rintro e w' ⟨rfl, rfl⟩
              go_wp2_with fail
              refine ⟨⟨k + 1, _, a * 10 + d, (by first | rfl | (congr 1; omega)), (by first | go_num | rfl), HKN.out, HN⟩, by simp [intOf]; omega⟩
        · have hkk : k = s.size := by omega
          have htk : (L (s)).take k = L (s) := List.take_of_length_le (by rw [L_size, hkk]; first | exact Nat.le_of_eq HSZ.out | exact Nat.le_refl _)
          rw [htk] at hok hval
          by_cases h0 : s.size = 0
          · have HF : Hid (readL (L s) = none ∧ acc = 0) := Lib.hid (by
              have hl0 : L (s) = [] := List.length_eq_zero_iff.1 (by rw [L_size]; first | (rw [HSZ.out]; exact h0) | exact h0)
              rw [hl0] at hval
              exact ⟨by rw [HEQ.out, hl0, readB_nil], hval.symm⟩)
            have hem : (s).toList.isEmpty = true := by
              rw [isEmpty_L, List.isEmpty_iff, ← List.length_eq_zero_iff, L_size]; first | (rw [HSZ.out]; exact h0) | exact h0
            have ha2 : a = 0 := by have := HF.out.2; omega
            subst ha2
            clear hok hval hacc ha htk
            go_wp2_with fail
            go_ret2
            exact ⟨by rw [HF.out.1]; rfl, rfl⟩
          · have HF : Hid (readL (L s) = some acc ∧ a = (acc : Int)) := Lib.hid ⟨by
              rw [HEQ.out, readB_all (by intro h; apply h0; have := congrArg List.length h; rw [L_size] at this; first | (rw [HSZ.out] at this; exact this) | exact this) hok (by omega), hval], ha⟩
            have hem : (s).toList.isEmpty = false := by
              rw [isEmpty_L]
              cases h : (L (s)).isEmpty with
              | false => rfl
              | true =>
                exfalso
                apply h0
                rw [List.isEmpty_iff, ← List.length_eq_zero_iff, L_size] at h
                first | (rw [HSZ.out] at h; exact h) | exact h
            have hwa : IntKind.i64.wrap a = a := IntWalk.i64_in _ ⟨by omega, by omega⟩
            clear hok hval hacc ha htk
            go_wp2_with fail
            go_ret2
            exact ⟨by rw [HF.out.1]; show _ = Ending.returned (.tuple #[.int .i64 ((acc : Nat) : Int), .bool true]); rw [← HF.out.2]; rfl, rfl⟩
end Go.Proofs.YtpgneaekflhgnaaDoor
