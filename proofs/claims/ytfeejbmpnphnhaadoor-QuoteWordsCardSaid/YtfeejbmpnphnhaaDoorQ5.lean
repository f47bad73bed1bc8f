/-
  The walk of the document's Read.
-/
import Derived.Test.YtfeejbmpnphnhaaDoorQ4
namespace Go.Proofs.YtfeejbmpnphnhaaDoor
open Go.RowKit

theorem map_app (o : Option (List UInt8)) (a b : List UInt8) : (o.map (b ++ ·)).map (a ++ ·) = o.map (a ++ b ++ ·) := by
  rw [Option.map_map]
  congr 1
  funext x
  simp
theorem map_one (o : Option (List UInt8)) (a : List UInt8) (c : UInt8) : (o.map (c :: ·)).map (a ++ ·) = o.map (a ++ [c] ++ ·) := map_app o a [c]
theorem size_one (s : ByteArray) (k : Nat) : (s.extract k (k + 1)).size ≤ 1 := by rw [ByteArray.size_extract]; omega
theorem drop_end (s : ByteArray) : (L s).drop s.size = [] := List.drop_of_length_le (by rw [L_size]; exact Nat.le_refl _)

set_option maxHeartbeats 2000000 in
set_option maxRecDepth 100000 in
theorem refRead_any (q : ByteArray) (w : World) (hq : q.size ≤ 100000) :
    Calls Tryd.prog 10 #[.string q] w fun e w' => e = .returned (readR (readL (L q))) ∧ w' = w := by
  have hrr : L q ≠ [] → readL (L q) = rdM false (L q) := fun h => by rw [readL, if_neg h]
  have HRR := Lib.hid hrr
  clear hrr
  go_enter Tryd.func10, Tryd.ntmps10
  go_wp2_with fail
  go_loop [4, 5] (fun o i => ∃ (k : Nat) (t : ByteArray), k ≤ q.size ∧ o = .string t ∧ i = .int .i64 k ∧ rdM false (L q) = (rdM false ((L q).drop k)).map (L t ++ ·) ∧ t.size ≤ k) (fun _ i => q.size - (intOf i).toNat)
  case atStart => exact ⟨0, ⟨#[]⟩, by omega, rfl, rfl, by rw [show L ⟨#[]⟩ = [] from rfl, List.drop_zero]; cases rdM false (L q) <;> rfl, Nat.le_refl _⟩
  case round =>
    obtain ⟨k, t, hk, rfl, rfl, hrd, hts⟩ := hrel
    have HR := Lib.hid hrd
    clear hrd
    by_cases hlt : k < q.size
    · have hne : L q ≠ [] := fun e => by have := congrArg List.length e; rw [L_size, List.length_nil] at this; omega
      have HE := Lib.hid (HRR.out hne)
      have i0 := run_idx (P := Tryd.prog) (k := .i64) Tryd.underlying9 q (k : Int) k rfl hlt
      have hd := drop_getD (L q) (show k < (L q).length from hlt)
      have hone := L_one q hlt
      have hosz := size_one q k
      obtain ⟨c, hc⟩ : ∃ c, c = (L q).getD k 0 := ⟨_, rfl⟩
      rw [← hc] at i0 hd hone
      have HO := Lib.hid hone
      clear hc hne hone
      by_cases h39 : c = 39
      · have et : (((c.toNat : Nat) : Int) == 39) = true := by rw [h39]; rfl
        have HS : Hid (rdM false (L q) = (rdM true ((L q).drop (k + 1))).map (L t ++ ·)) := Lib.hid (by rw [HR.out, hd, h39, rdM_quote])
        clear hd h39
        go_wp2_with fail
        go_loop [4, 5] (fun o i => ∃ (m : Nat) (u : ByteArray), k < m ∧ m ≤ q.size ∧ o = .string u ∧ i = .int .i64 m ∧ rdM false (L q) = (rdM true ((L q).drop m)).map (L u ++ ·) ∧ u.size ≤ m) (fun _ i => q.size - (intOf i).toNat)
        case atStart => exact ⟨k + 1, t, by omega, by omega, rfl, by go_num, HS.out, by omega⟩
        case round =>
          obtain ⟨m, u, hkm, hm, rfl, rfl, hrd2, hus⟩ := hrel
          have HR2 := Lib.hid hrd2
          clear hrd2 i0 et
          by_cases hlt2 : m < q.size
          · have i1 := run_idx (P := Tryd.prog) (k := .i64) Tryd.underlying9 q (m : Int) m rfl hlt2
            have hd2 := drop_getD (L q) (show m < (L q).length from hlt2)
            have hone2 := L_one q hlt2
            have hosz2 := size_one q m
            obtain ⟨d, hdd⟩ : ∃ d, d = (L q).getD m 0 := ⟨_, rfl⟩
            rw [← hdd] at i1 hd2 hone2
            have HO2 := Lib.hid hone2
            clear hdd hone2
            by_cases d39 : d = 39
            · have et : (((d.toNat : Nat) : Int) == 39) = true := by rw [d39]; rfl
              have HS2 : Hid (rdM false (L q) = (rdM false ((L q).drop (m + 1))).map (L u ++ ·)) := Lib.hid (by rw [HR2.out, hd2, d39, rdM_end])
              clear hd2 d39
              go_wp2_with fail
              go_round
              case rel => exact ⟨m + 1, u, by omega, rfl, by go_num, HS2.out, by omega⟩
              case measure => simp [intOf]; omega
            · have et : (((d.toNat : Nat) : Int) == 39) = false := ne_byte (d := 39) d39
              have HS2 : Hid (rdM false (L q) = (rdM true ((L q).drop (m + 1))).map (L (u ++ q.extract m (m + 1)) ++ ·)) := Lib.hid (by rw [HR2.out, hd2, rdM_in d39, L_append, HO2.out, map_one])
              clear hd2 d39
              go_wp2_with fail
              go_round
              case rel => exact ⟨m + 1, _, by omega, by omega, rfl, by go_num, HS2.out, by rw [ByteArray.size_append]; omega⟩
              case measure => simp [intOf]; omega
          · obtain rfl : m = q.size := by omega
            have HN : Hid (readL (L q) = none) := Lib.hid (by rw [HE.out, HR2.out, drop_end]; rfl)
            go_wp2_with fail
            go_ret2
            exact ⟨by rw [HN.out]; rfl, rfl⟩
      · have et : (((c.toNat : Nat) : Int) == 39) = false := ne_byte (d := 39) h39
        by_cases hb : c = 92 ∧ k + 1 < q.size ∧ (L q).getD (k + 1) 0 = 39
        · obtain ⟨h92, hk2, hd39⟩ := hb
          have e92 : (((c.toNat : Nat) : Int) == 92) = true := by rw [h92]; rfl
          have i1 := run_idx (P := Tryd.prog) (k := .i64) Tryd.underlying9 q ((k : Int) + 1) (k + 1) (by omega) hk2
          rw [hd39] at i1
          have HS : Hid (rdM false (L q) = (rdM false ((L q).drop (k + 2))).map (L (t ++ ⟨#[39]⟩) ++ ·)) := Lib.hid (by
            have hd2 := drop_getD (L q) (show k + 1 < (L q).length from hk2)
            rw [HR.out, hd, hd2, h92, hd39, rdM_back, L_append, map_one]; rfl)
          clear hd h92 hd39 h39
          go_wp2_with fail
          go_round
          case rel => exact ⟨k + 2, _, by omega, rfl, by go_num, HS.out, by rw [ByteArray.size_append]; simp; omega⟩
          case measure => simp [intOf]; omega
        · have C := Lib.hid (fun w => refSafe_any c w)
          by_cases h92 : c = 92
          · have e92 : (((c.toNat : Nat) : Int) == 92) = true := by rw [h92]; rfl
            by_cases hk2 : k + 1 < q.size
            · have hd2 := drop_getD (L q) (show k + 1 < (L q).length from hk2)
              have i1 := run_idx (P := Tryd.prog) (k := .i64) Tryd.underlying9 q ((k : Int) + 1) (k + 1) (by omega) hk2
              obtain ⟨d, hdd⟩ : ∃ d, d = (L q).getD (k + 1) 0 := ⟨_, rfl⟩
              rw [← hdd] at i1 hb hd2
              have hd39 : d ≠ 39 := fun e => hb ⟨h92, hk2, e⟩
              have ed : (((d.toNat : Nat) : Int) == 39) = false := ne_byte (d := 39) hd39
              have hno : ¬ (c = 92 ∧ ((L q).drop (k + 1)).head? = some 39) := fun ⟨_, e⟩ => by
                rw [hd2] at e
                simp at e
                exact hd39 e
              clear hb h92 hdd hd2 hd39
              cases hs : safeB c with
              | true =>
                rw [hs] at C
                have HS : Hid (rdM false (L q) = (rdM false ((L q).drop (k + 1))).map (L (t ++ q.extract k (k + 1)) ++ ·)) := Lib.hid (by rw [HR.out, hd, rdM_safe hs, L_append, HO.out, map_one])
                clear hd hs h39 hno
                go_wp2_with fail
                refine (C.out _).mono ?_
                rintro e w1 ⟨rfl, rfl⟩
                go_wp2_with fail
                go_round
                case rel => exact ⟨k + 1, _, by omega, rfl, by go_num, HS.out, by rw [ByteArray.size_append]; omega⟩
                case measure => simp [intOf]; omega
              | false =>
                rw [hs] at C
                have HN : Hid (readL (L q) = none) := Lib.hid (by rw [HE.out, HR.out, hd, rdM_no _ h39 hno hs]; rfl)
                clear hd hs h39 hno
                go_wp2_with fail
                refine (C.out _).mono ?_
                rintro e w1 ⟨rfl, rfl⟩
                go_wp2_with fail
                go_ret2
                exact ⟨by rw [HN.out]; rfl, rfl⟩
            · have hno : ¬ (c = 92 ∧ ((L q).drop (k + 1)).head? = some 39) := fun ⟨_, e⟩ => by
                rw [List.drop_of_length_le (by rw [L_size]; omega)] at e
                cases e
              clear hb h92
              cases hs : safeB c with
              | true =>
                rw [hs] at C
                have HS : Hid (rdM false (L q) = (rdM false ((L q).drop (k + 1))).map (L (t ++ q.extract k (k + 1)) ++ ·)) := Lib.hid (by rw [HR.out, hd, rdM_safe hs, L_append, HO.out, map_one])
                clear hd hs h39 hno
                go_wp2_with fail
                refine (C.out _).mono ?_
                rintro e w1 ⟨rfl, rfl⟩
                go_wp2_with fail
                go_round
                case rel => exact ⟨k + 1, _, by omega, rfl, by go_num, HS.out, by rw [ByteArray.size_append]; omega⟩
                case measure => simp [intOf]; omega
              | false =>
                rw [hs] at C
                have HN : Hid (readL (L q) = none) := Lib.hid (by rw [HE.out, HR.out, hd, rdM_no _ h39 hno hs]; rfl)
                clear hd hs h39 hno
                go_wp2_with fail
                refine (C.out _).mono ?_
                rintro e w1 ⟨rfl, rfl⟩
                go_wp2_with fail
                go_ret2
                exact ⟨by rw [HN.out]; rfl, rfl⟩
          · have e92 : (((c.toNat : Nat) : Int) == 92) = false := ne_byte (d := 92) h92
            have hno : ¬ (c = 92 ∧ ((L q).drop (k + 1)).head? = some 39) := fun ⟨e, _⟩ => h92 e
            clear hb h92
            cases hs : safeB c with
            | true =>
              rw [hs] at C
              have HS : Hid (rdM false (L q) = (rdM false ((L q).drop (k + 1))).map (L (t ++ q.extract k (k + 1)) ++ ·)) := Lib.hid (by rw [HR.out, hd, rdM_safe hs, L_append, HO.out, map_one])
              clear hd hs h39 hno
              go_wp2_with fail
              refine (C.out _).mono ?_
              rintro e w1 ⟨rfl, rfl⟩
              go_wp2_with fail
              go_round
              case rel => exact ⟨k + 1, _, by omega, rfl, by go_num, HS.out, by rw [ByteArray.size_append]; omega⟩
              case measure => simp [intOf]; omega
            | false =>
              rw [hs] at C
              have HN : Hid (readL (L q) = none) := Lib.hid (by rw [HE.out, HR.out, hd, rdM_no _ h39 hno hs]; rfl)
              clear hd hs h39 hno
              go_wp2_with fail
              refine (C.out _).mono ?_
              rintro e w1 ⟨rfl, rfl⟩
              go_wp2_with fail
              go_ret2
              exact ⟨by rw [HN.out]; rfl, rfl⟩
    · obtain rfl : k = q.size := by omega
      cases e0 : q.toList.isEmpty with
      | true =>
        have e1 : L q = [] := by rw [isEmpty_L] at e0; simpa using e0
        have ht : t = ⟨#[]⟩ := by
          have h1 : q.size = 0 := by rw [← L_size, e1]; rfl
          have h2 : L t = [] := List.length_eq_zero_iff.1 (by rw [L_size]; omega)
          rw [← S_L t, h2]; rfl
        have HN : Hid (readL (L q) = none) := Lib.hid (by rw [e1]; rfl)
        subst ht
        clear e1
        go_wp2_with fail
        go_ret2
        exact ⟨by rw [HN.out]; rfl, rfl⟩
      | false =>
        have hne : L q ≠ [] := by rw [isEmpty_L] at e0; simpa using e0
        have HN : Hid (readL (L q) = some (L t)) := Lib.hid (by rw [HRR.out hne, HR.out, drop_end]; simp [rdM])
        clear hne
        go_wp2_with fail
        go_ret2
        exact ⟨by rw [HN.out]; rfl, rfl⟩
end Go.Proofs.YtfeejbmpnphnhaaDoor
