/-
  The walks of the document's Safe, of Bare, Single and Word, the program's and the document's, and of the anchor.
-/
import Derived.Test.YtfeejbmpnphnhaaDoorQ2
namespace Go.Proofs.YtfeejbmpnphnhaaDoor
open Go.RowKit

theorem refSafe_any (c : UInt8) (w : World) :
    Calls Tryd.prog 18 #[.int .u8 ((c.toNat : Nat) : Int)] w fun e w' => e = .returned (.bool (safeB c)) ∧ w' = w := by
  obtain ⟨b, hb⟩ : ∃ b, b = safeB c := ⟨_, rfl⟩
  rw [← hb]
  obtain ⟨n, hn⟩ : ∃ n : Nat, n = c.toNat := ⟨_, rfl⟩
  have hal : alnumB c = ((decide (97 ≤ n) && decide (n ≤ 122)) || (decide (65 ≤ n) && decide (n ≤ 90)) || (decide (48 ≤ n) && decide (n ≤ 57))) := by rw [alnumB, hn]
  rw [safeB, hal] at hb
  clear hal
  by_cases h1 : 97 ≤ n ∧ n ≤ 122
  · skip
    have hb2 : b = true := by rw [hb]; simp [h1]
    subst hb2
    rw [← hn]
    obtain ⟨k4, k5⟩ := h1
    clear hb hn
    go_enter Tryd.func18, Tryd.ntmps18
    go_wp2_with fail
    go_ret
    exact ⟨rfl, rfl⟩
  · by_cases h2 : 65 ≤ n ∧ n ≤ 90
    · clear h1
      have hb2 : b = true := by rw [hb]; simp [h2]
      subst hb2
      rw [← hn]
      obtain ⟨k4, k5⟩ := h2
      clear hb hn
      go_enter Tryd.func18, Tryd.ntmps18
      go_wp2_with fail
      go_ret
      exact ⟨rfl, rfl⟩
    · by_cases h3 : 48 ≤ n ∧ n ≤ 57
      · clear h1 h2
        have hb2 : b = true := by rw [hb]; simp [h3]
        subst hb2
        rw [← hn]
        obtain ⟨k4, k5⟩ := h3
        clear hb hn
        go_enter Tryd.func18, Tryd.ntmps18
        go_wp2_with fail
        go_ret
        exact ⟨rfl, rfl⟩
      · have hb2 : b = hasB others c := by
          rw [hb, Bool.eq_iff_iff]
          simp
          intro h
          exfalso
          omega
        have HB := Lib.hid hb2
        have HN := Lib.hid hn
        rw [← hn]
        clear hb hb2 hn
        have k1 : n < 97 ∨ 122 < n := by omega
        have k2 : n < 65 ∨ 90 < n := by omega
        have k3 : n < 48 ∨ 57 < n := by omega
        clear h1 h2 h3
        rcases k1 with k1 | k1 <;> rcases k2 with k2 | k2 <;> rcases k3 with k3 | k3
        all_goals try omega
        all_goals
          go_enter Tryd.func18, Tryd.ntmps18
          go_wp2_with fail
          go_loop [4] (fun i => ∃ k : Nat, k ≤ 8 ∧ i = .int .i64 k ∧ hasB others c = hasB (others.drop k) c) (fun i => 8 - (intOf i).toNat)
          case atStart => exact ⟨0, by omega, rfl, rfl⟩
          case round =>
            obtain ⟨k, hk, rfl, hr⟩ := hrel
            have HR := Lib.hid hr
            clear hr
            by_cases hlt : k < 8
            · have i0 := run_idx (P := Tryd.prog) (k := .i64) Tryd.underlying9 ⟨#[95, 46, 47, 44, 43, 45, 58, 64]⟩ (k : Int) k rfl hlt
              obtain ⟨d, hd⟩ : ∃ d, d = (L ⟨#[95, 46, 47, 44, 43, 45, 58, 64]⟩).getD k 0 := ⟨_, rfl⟩
              have hdr : others.drop k = d :: others.drop (k + 1) := by rw [hd]; exact drop_getD others hlt
              rw [← hd] at i0
              have HDR := Lib.hid hdr
              clear hd hdr
              by_cases he : d = c
              · have ht : (((d.toNat : Nat) : Int) == (n : Int)) = true := by rw [he, HN.out]; simp
                have HE := Lib.hid he
                clear he
                go_wp2_with fail
                go_ret
                exact ⟨ret_bool (by rw [HB.out, HR.out, HDR.out, HE.out, hasB_same]), rfl⟩
              · have ht : (((d.toNat : Nat) : Int) == (n : Int)) = false := by
                  rw [HN.out]; exact ne_byte he
                have HE := Lib.hid he
                clear he
                go_wp2_with fail
                go_round
                case rel => exact ⟨k + 1, by omega, by go_num, by
                  rw [HR.out, HDR.out, hasB_cons _ HE.out]⟩
                case measure => simp [intOf]; omega
            · obtain rfl : k = 8 := by omega
              go_wp2_with fail
              go_ret
              exact ⟨ret_bool (by rw [HB.out, HR.out]; rfl), rfl⟩

theorem all_drop {l : List UInt8} {k : Nat} (hk : k < l.length) : (l.drop k).all safeB = (safeB (l.getD k 0) && (l.drop (k + 1)).all safeB) := by
  rw [drop_getD l hk, List.all_cons]

theorem bare_any (s : ByteArray) (w : World) (hs : s.size ≤ 100000) :
    Calls Tryd.prog 11 #[.string s] w fun e w' => e = .returned (.bool (bareB (L s))) ∧ Below w.heap.size w w' := by
  cases e0 : s.toList.isEmpty with
  | true =>
    have hr : bareB (L s) = false := by rw [isEmpty_L] at e0; rw [bareB, e0]; rfl
    rw [hr]
    clear hr
    go_enter Tryd.func11, Tryd.ntmps11
    go_wp2_with fail
    go_ret
    exact ⟨rfl, Below.refl _ _⟩
  | false =>
    have hr : bareB (L s) = ((L s).drop 0).all safeB := by rw [isEmpty_L] at e0; rw [bareB, e0]; rfl
    have HRR := Lib.hid hr
    clear hr
    have HBM := Lib.hid (BytesAt.made w 5 s)
    have HBW := Lib.hid (below_bytesWorld w 5 s)
    go_enter Tryd.func11, Tryd.ntmps11
    go_wp2_with fail
    go_loop [10] (fun i => ∃ k : Nat, k ≤ s.size ∧ i = .int .i64 k ∧ bareB (L s) = ((L s).drop k).all safeB) (fun i => s.size - (intOf i).toNat)
    case atStart => exact ⟨0, by omega, rfl, HRR.out⟩
    case round =>
      obtain ⟨k, hk, rfl, hr⟩ := hrel
      have HR := Lib.hid hr
      clear hr
      by_cases hlt : k < s.size
      · have hcell := (HBM.out k (by rw [L_size]; exact hlt)).1
        have hda := all_drop (show k < (L s).length from hlt)
        obtain ⟨c, hc⟩ : ∃ c, c = (L s).getD k 0 := ⟨_, rfl⟩
        rw [← hc] at hcell hda
        have HD := Lib.hid hda
        clear hc hda
        have C := Lib.hid (fun w => safe_any c w)
        cases hsf : safeB c with
        | true =>
          rw [hsf] at C
          have HD2 : Hid (bareB (L s) = ((L s).drop (k + 1)).all safeB) := Lib.hid (by rw [HR.out, HD.out, hsf, Bool.true_and])
          clear hsf
          go_wp2_with fail
          refine (C.out _).mono ?_
          rintro e w1 ⟨rfl, rfl⟩
          go_wp2_with fail
          go_round
          case rel => exact ⟨k + 1, by omega, by go_num, HD2.out⟩
          case measure => simp [intOf]; omega
        | false =>
          rw [hsf] at C
          have HD2 : Hid (bareB (L s) = false) := Lib.hid (by rw [HR.out, HD.out, hsf, Bool.false_and])
          clear hsf
          go_wp2_with fail
          refine (C.out _).mono ?_
          rintro e w1 ⟨rfl, rfl⟩
          go_wp2_with fail
          go_ret
          exact ⟨ret_bool HD2.out.symm, HBW.out⟩
      · obtain rfl : k = s.size := by omega
        have HD2 : Hid (bareB (L s) = true) := Lib.hid (by rw [HR.out, List.drop_of_length_le (by rw [L_size]; exact Nat.le_refl _)]; rfl)
        go_wp2_with fail
        go_ret
        exact ⟨ret_bool HD2.out.symm, HBW.out⟩

theorem refBare_any (s : ByteArray) (w : World) (hs : s.size ≤ 100000) :
    Calls Tryd.prog 12 #[.string s] w fun e w' => e = .returned (.bool (bareB (L s))) ∧ w' = w := by
  have hr : bareB (L s) = (!s.toList.isEmpty && ((L s).drop 0).all safeB) := by rw [isEmpty_L, bareB]; rfl
  have HRR := Lib.hid hr
  clear hr
  go_enter Tryd.func12, Tryd.ntmps12
  go_wp2_with fail
  go_loop [3] (fun i => ∃ k : Nat, k ≤ s.size ∧ i = .int .i64 k ∧ bareB (L s) = (!s.toList.isEmpty && ((L s).drop k).all safeB)) (fun i => s.size - (intOf i).toNat)
  case atStart => exact ⟨0, by omega, rfl, HRR.out⟩
  case round =>
    obtain ⟨k, hk, rfl, hr⟩ := hrel
    have HR := Lib.hid hr
    clear hr
    by_cases hlt : k < s.size
    · have i0 := run_idx (P := Tryd.prog) (k := .i64) Tryd.underlying9 s (k : Int) k rfl hlt
      have hda := all_drop (show k < (L s).length from hlt)
      obtain ⟨c, hc⟩ : ∃ c, c = (L s).getD k 0 := ⟨_, rfl⟩
      rw [← hc] at i0 hda
      have HD := Lib.hid hda
      clear hc hda
      have C := Lib.hid (fun w => refSafe_any c w)
      cases hsf : safeB c with
      | true =>
        rw [hsf] at C
        have HD2 : Hid (bareB (L s) = (!s.toList.isEmpty && ((L s).drop (k + 1)).all safeB)) := Lib.hid (by rw [HR.out, HD.out, hsf, Bool.true_and])
        clear hsf
        go_wp2_with fail
        refine (C.out _).mono ?_
        rintro e w1 ⟨rfl, rfl⟩
        go_wp2_with fail
        go_round
        case rel => exact ⟨k + 1, by omega, by go_num, HD2.out⟩
        case measure => simp [intOf]; omega
      | false =>
        rw [hsf] at C
        have HD2 : Hid (bareB (L s) = false) := Lib.hid (by rw [HR.out, HD.out, hsf, Bool.false_and, Bool.and_false])
        clear hsf
        go_wp2_with fail
        refine (C.out _).mono ?_
        rintro e w1 ⟨rfl, rfl⟩
        go_wp2_with fail
        go_ret
        exact ⟨ret_bool HD2.out.symm, rfl⟩
    · obtain rfl : k = s.size := by omega
      have HD2 : Hid (bareB (L s) = !s.toList.isEmpty) := Lib.hid (by rw [HR.out, List.drop_of_length_le (by rw [L_size]; exact Nat.le_refl _)]; simp)
      cases e0 : s.toList.isEmpty
      all_goals
        go_wp2_with fail
        go_ret
        exact ⟨ret_bool (by rw [HD2.out, e0]; rfl), rfl⟩

theorem replaceAll_any (s u : ByteArray) (w : World) (hs : s.size ≤ 100000) (hv : Held w) (hu : u = S (escL (L s))) :
    Calls Tryd.prog 17 #[.string s, .string ⟨#[39]⟩, .string ⟨#[39, 92, 39, 39]⟩] w fun e w' => e = .returned (.string u) ∧ Below w.heap.size w w' := by
  obtain ⟨m, hm⟩ := hv.1
  have hle := Lib.countB_le ⟨#[39]⟩ (Nat.le_refl _) s.size s (Nat.le_refl _)
  have h := Tryd.strings_ReplaceAll s ⟨#[39]⟩ ⟨#[39, 92, 39, 39]⟩ m w (by omega) hm (Nat.le_refl _) (by
    show s.size + Lib.countB s ⟨#[39]⟩ * 4 ≤ _
    omega)
  subst hu
  rw [← replaceAll_esc]
  exact h

theorem single_any (s : ByteArray) (w : World) (hs : s.size ≤ 10000) (hv : Held w) :
    Calls Tryd.prog 9 #[.string s] w fun e w' => e = .returned (.string (S (singleL (L s)))) ∧ Below w.heap.size w w' := by
  obtain ⟨u, hu⟩ : ∃ u, u = S (escL (L s)) := ⟨_, rfl⟩
  have hus : u.size ≤ 40000 := by rw [hu, S_size]; have := escL_len (L s); rw [L_size] at this; omega
  have C := Lib.hid (replaceAll_any s u w (by omega) hv hu)
  have hr : ⟨#[39]⟩ ++ u ++ ⟨#[39]⟩ = S (singleL (L s)) := by
    apply L_inj
    rw [L_append, L_append, L_S, hu, L_S]; rfl
  rw [← hr]
  clear hu hr
  go_enter Tryd.func9, Tryd.ntmps9
  go_wp2_with fail
  refine C.out.mono ?_
  rintro e w1 ⟨rfl, hb⟩
  go_wp2_with fail
  go_ret
  exact ⟨rfl, hb⟩

theorem esc_take {l : List UInt8} {k : Nat} (hk : k < l.length) : escL (l.take (k + 1)) = escL (l.take k) ++ (if l.getD k 0 = 39 then [39, 92, 39] else []) ++ [l.getD k 0] := by
  have e : l.take (k + 1) = l.take k ++ [l.getD k 0] := by
    rw [List.take_add_one]
    congr 1
    simp [List.getD, List.getElem?_eq_getElem hk]
  rw [e, escL_app, List.append_assoc]
  congr 1
  rw [escL]
  split
  · rename_i h; rw [h]; rfl
  · rfl

theorem L_one (s : ByteArray) {k : Nat} (hk : k < s.size) : L (s.extract k (k + 1)) = [(L s).getD k 0] := by
  rw [L_extract, drop_getD (L s) hk, show k + 1 - k = 1 by omega]; rfl

theorem refSingle_any (s : ByteArray) (w : World) (hs : s.size ≤ 10000) :
    Calls Tryd.prog 14 #[.string s] w fun e w' => e = .returned (.string (S (singleL (L s)))) ∧ w' = w := by
  go_enter Tryd.func14, Tryd.ntmps14
  go_wp2_with fail
  go_loop [3, 4] (fun o i => ∃ (k : Nat) (t : ByteArray), k ≤ s.size ∧ o = .string t ∧ i = .int .i64 k ∧ L t = 39 :: escL ((L s).take k) ∧ t.size ≤ 4 * k + 1) (fun _ i => s.size - (intOf i).toNat)
  case atStart => exact ⟨0, ⟨#[39]⟩, by omega, rfl, rfl, rfl, Nat.le_refl _⟩
  case round =>
    obtain ⟨k, t, hk, rfl, rfl, ht, hts⟩ := hrel
    have HT := Lib.hid ht
    clear ht
    by_cases hlt : k < s.size
    · have i0 := run_idx (P := Tryd.prog) (k := .i64) Tryd.underlying9 s (k : Int) k rfl hlt
      have hes := esc_take (show k < (L s).length from hlt)
      have hone := L_one s hlt
      have hosz : (s.extract k (k + 1)).size ≤ 1 := by rw [← L_size, hone]; simp
      obtain ⟨c, hc⟩ : ∃ c, c = (L s).getD k 0 := ⟨_, rfl⟩
      rw [← hc] at i0 hes hone
      have HO := Lib.hid hone
      clear hc hone
      by_cases h39 : c = 39
      · have et : (((c.toNat : Nat) : Int) == 39) = true := by rw [h39]; rfl
        rw [if_pos h39] at hes
        have HE := Lib.hid hes
        clear h39 hes
        go_wp2_with fail
        go_round
        case rel =>
          refine ⟨k + 1, _, by omega, rfl, by go_num, ?_, ?_⟩
          · rw [L_append, L_append, HT.out, HE.out, HO.out]; simp
          · simp only [ByteArray.size_append]; simp; omega
        case measure => simp [intOf]; omega
      · have et : (((c.toNat : Nat) : Int) == 39) = false := ne_byte (d := 39) h39
        rw [if_neg h39] at hes
        have HE := Lib.hid hes
        clear h39 hes
        go_wp2_with fail
        go_round
        case rel =>
          refine ⟨k + 1, _, by omega, rfl, by go_num, ?_, ?_⟩
          · rw [L_append, HT.out, HE.out, HO.out]; simp
          · simp only [ByteArray.size_append]; omega
        case measure => simp [intOf]; omega
    · obtain rfl : k = s.size := by omega
      have hr : t ++ ⟨#[39]⟩ = S (singleL (L s)) := by
        apply L_inj
        rw [L_append, HT.out, List.take_of_length_le (by rw [L_size]; exact Nat.le_refl _), L_S]; rfl
      have HR := Lib.hid hr
      clear hr
      go_wp2_with fail
      go_ret
      exact ⟨ret_string HR.out, rfl⟩

theorem word_any (s : ByteArray) (w : World) (hs : s.size ≤ 10000) (hv : Held w) :
    Calls Tryd.prog 8 #[.string s] w fun e w' => e = .returned (.string (S (wordL (L s)))) ∧ Below w.heap.size w w' := by
  have w0pos := hv.2
  have HV := Lib.hid hv
  have C := Lib.hid (bare_any s w (by omega))
  obtain ⟨u, hu⟩ : ∃ u, u = S (wordL (L s)) := ⟨_, rfl⟩
  rw [← hu]
  cases hb : bareB (L s) with
  | true =>
    have hus : u = s := by rw [hu, wordL, if_pos hb, S_L]
    subst hus
    rw [hb] at C
    clear hb hu hv
    go_enter Tryd.func8, Tryd.ntmps8
    go_wp2_with fail
    refine C.out.mono ?_
    rintro e w1 ⟨rfl, hb1⟩
    go_wp2_with fail
    go_ret
    exact ⟨rfl, hb1⟩
  | false =>
    have hus : u = S (singleL (L s)) := by rw [hu, wordL, if_neg (by rw [hb]; decide)]
    have C2 := Lib.hid (fun w hv => single_any s w hs hv)
    rw [← hus] at C2
    rw [hb] at C
    clear hb hu hus hv
    go_enter Tryd.func8, Tryd.ntmps8
    go_wp2_with fail
    refine C.out.mono ?_
    rintro e w1 ⟨rfl, hb1⟩
    go_wp2_with fail
    refine (C2.out _ (HV.out.below w0pos hb1)).mono ?_
    rintro e w2 ⟨rfl, hb2⟩
    have hb3 := hb1.trans (hb2.mono hb1.size)
    clear hb1 hb2
    go_wp2_with fail
    go_ret
    exact ⟨rfl, hb3⟩

theorem refWord_any (s : ByteArray) (w : World) (hs : s.size ≤ 10000) :
    Calls Tryd.prog 13 #[.string s] w fun e w' => e = .returned (.string (S (wordL (L s)))) ∧ w' = w := by
  have C := Lib.hid (fun w => refBare_any s w (by omega))
  obtain ⟨u, hu⟩ : ∃ u, u = S (wordL (L s)) := ⟨_, rfl⟩
  rw [← hu]
  cases hb : bareB (L s) with
  | true =>
    have hus : u = s := by rw [hu, wordL, if_pos hb, S_L]
    subst hus
    rw [hb] at C
    clear hb hu
    go_enter Tryd.func13, Tryd.ntmps13
    go_wp2_with fail
    refine (C.out _).mono ?_
    rintro e w1 ⟨rfl, rfl⟩
    go_wp2_with fail
    go_ret
    exact ⟨rfl, rfl⟩
  | false =>
    have hus : u = S (singleL (L s)) := by rw [hu, wordL, if_neg (by rw [hb]; decide)]
    have C2 := Lib.hid (fun w => refSingle_any s w hs)
    rw [← hus] at C2
    rw [hb] at C
    clear hb hu hus
    go_enter Tryd.func13, Tryd.ntmps13
    go_wp2_with fail
    refine (C.out _).mono ?_
    rintro e w1 ⟨rfl, rfl⟩
    go_wp2_with fail
    refine (C2.out _).mono ?_
    rintro e w1 ⟨rfl, rfl⟩
    go_wp2_with fail
    go_ret
    exact ⟨rfl, rfl⟩

theorem anchor_any (w : World) (hv : Held w) : Calls Tryd.prog 6 #[] w fun e w' => e = .returned (.bool true) ∧ Below w.heap.size w w' := by
  have C1 := Lib.hid (word_any ⟨#[105, 116, 39, 115]⟩ w (by decide) hv)
  rw [show S (wordL (L ⟨#[105, 116, 39, 115]⟩)) = ⟨#[39, 105, 116, 39, 92, 39, 39, 115, 39]⟩ by decide +kernel] at C1
  go_enter Tryd.func6, Tryd.ntmps6
  go_wp2_with fail
  refine C1.out.mono ?_
  rintro e w1 ⟨rfl, hb⟩
  go_wp2_with fail
  go_ret
  exact ⟨rfl, hb⟩
end Go.Proofs.YtfeejbmpnphnhaaDoor
