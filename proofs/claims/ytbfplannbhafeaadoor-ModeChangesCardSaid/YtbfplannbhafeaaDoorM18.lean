/-
  The document's walk of a change.
-/
import Derived.Test.YtbfplannbhafeaaDoorM17
namespace Go.Proofs.YtbfplannbhafeaaDoor
open Go.RowKit

/-- The pieces from f on are still to be read; up to i there is no comma. -/
def PartsAt (l : List UInt8) (dir : Bool) (mask : Nat) (R : Option Nat) (i f n : Nat) : Prop :=
  (i ≤ l.length ∧ f ≤ i ∧ 44 ∉ (l.drop f).take (i - f) ∧ R = partsL dir mask (sp 44 (l.drop f)) n) ∨ (i = l.length + 1 ∧ R = some n)
theorem PartsAt.start (l : List UInt8) (dir : Bool) (mask m : Nat) : PartsAt l dir mask (partsL dir mask (sp 44 l) m) 0 0 m := .inl ⟨Nat.zero_le _, Nat.le_refl _, by simp, rfl⟩
theorem PartsAt.le {l : List UInt8} {dir : Bool} {mask : Nat} {R : Option Nat} {i f n : Nat} (h : PartsAt l dir mask R i f n) (hi : i ≤ l.length) : f ≤ i := by
  rcases h with h | h
  · exact h.2.1
  · omega
theorem PartsAt.step {l : List UInt8} {dir : Bool} {mask : Nat} {R : Option Nat} {i f n : Nat} (h : PartsAt l dir mask R i f n) {x : UInt8} (hx : l[i]? = some x) (h44 : x ≠ 44) : PartsAt l dir mask R (i + 1) f n := by
  have hi := (List.getElem?_eq_some_iff.1 hx).1
  rcases h with ⟨_, h2, h3, h4⟩ | h
  · refine .inl ⟨hi, by omega, ?_, h4⟩
    rw [show i + 1 - f = (i - f) + 1 by omega, List.take_add_one, List.getElem?_drop, show f + (i - f) = i by omega, hx]
    intro hm
    rcases List.mem_append.1 hm with hm | hm
    · exact h3 hm
    · simp at hm; exact h44 hm.symm
  · omega
theorem PartsAt.comma {l : List UInt8} {dir : Bool} {mask : Nat} {R : Option Nat} {i f n : Nat} (h : PartsAt l dir mask R i f n) (hx : l[i]? = some 44) :
    (clauseL dir mask ((l.drop f).take (i - f)) n = none → R = none) ∧ ∀ q, clauseL dir mask ((l.drop f).take (i - f)) n = some q → PartsAt l dir mask R (i + 1) (i + 1) q := by
  have hi := (List.getElem?_eq_some_iff.1 hx).1
  rcases h with ⟨_, h2, h3, h4⟩ | h
  · have e : l.drop f = (l.drop f).take (i - f) ++ 44 :: l.drop (i + 1) := by
      conv => lhs; rw [← List.take_append_drop (i - f) (l.drop f)]
      rw [List.drop_drop, show f + (i - f) = i by omega, List.drop_eq_getElem_cons hi]
      congr 2
      rw [List.getElem?_eq_getElem hi] at hx
      exact Option.some.inj hx
    rw [e, sp_app _ h3] at h4
    refine ⟨fun hc => by rw [h4, partsL_none hc], fun q hc => .inl ⟨hi, Nat.le_refl _, by simp, by rw [h4, partsL_some hc]⟩⟩
  · omega
theorem PartsAt.last {l : List UInt8} {dir : Bool} {mask : Nat} {R : Option Nat} {i f n : Nat} (h : PartsAt l dir mask R i f n) (hi : i = l.length) :
    (clauseL dir mask ((l.drop f).take (i - f)) n = none → R = none) ∧ ∀ q, clauseL dir mask ((l.drop f).take (i - f)) n = some q → PartsAt l dir mask R (i + 1) (i + 1) q := by
  rcases h with ⟨_, h2, h3, h4⟩ | h
  · have e : (l.drop f).take (i - f) = l.drop f := List.take_of_length_le (by rw [List.length_drop]; omega)
    rw [e] at h3 ⊢
    rw [sp_no h3] at h4
    exact ⟨fun hc => by rw [h4, partsL_none hc], fun q hc => .inr ⟨by omega, by rw [h4, partsL_some hc]; rfl⟩⟩
  · omega
theorem PartsAt.done {l : List UInt8} {dir : Bool} {mask : Nat} {R : Option Nat} {i f n : Nat} (h : PartsAt l dir mask R i f n) (hi : l.length < i) : R = some n := by
  rcases h with h | h
  · omega
  · exact h.2

set_option maxHeartbeats 1000000 in
set_option maxRecDepth 100000 in
theorem changeRef_any (s : ByteArray) (m : Nat) (dir : Bool) (mask : Nat) (w : World) (hs : s.size ≤ 300) (hm : m < 4096) (hk : mask < 4096) :
    Calls Tryd.prog 10 #[.string s, .int .i64 m, .bool dir, .int .i64 mask] w fun e w' => e = .returned (resV (changeP dir mask (L s) m)) ∧ w' = w := by
  cases e0 : s.toList.isEmpty with
  | true =>
    have hr : changeP dir mask (L s) m = (0, 11) := by rw [isEmpty_L] at e0; rw [changeP, if_pos (by simpa using e0)]
    rw [hr]
    clear hr
    go_enter Tryd.func10, Tryd.ntmps10
    go_wp2_with fail
    go_ret2
    exact ⟨rfl, rfl⟩
  | false =>
    have hne : L s ≠ [] := by rw [isEmpty_L] at e0; simpa using e0
    have hpos : 0 < s.size := List.length_pos_iff.2 hne
    have i0 := run_idx (P := Tryd.prog) (k := .i64) Tryd.underlying9 s 0 0 rfl hpos
    have hch : changeP dir mask (L s) m = if 48 ≤ ((L s).getD 0 0).toNat ∧ ((L s).getD 0 0).toNat ≤ 57 then octalL (L s) 0 else partsV (partsL dir mask (sp 44 (L s)) m) := by rw [changeP, if_neg hne]
    obtain ⟨x, hx⟩ : ∃ x : Nat, x = ((L s).getD 0 0).toNat := ⟨_, rfl⟩
    rw [← hx] at i0 hch
    by_cases hdig : 48 ≤ x ∧ x ≤ 57
    · rw [if_pos hdig] at hch
      rw [hch]
      obtain ⟨R, hR⟩ : ∃ R, R = octalL (L s) 0 := ⟨_, rfl⟩
      rw [← hR]
      have HR0 := Lib.hid hR
      obtain ⟨d1, d2⟩ := hdig
      clear hch hx hne hR
      go_enter Tryd.func10, Tryd.ntmps10
      go_wp2_with fail
      go_loop [10, 11] (fun nn i => ∃ k n : Nat, k ≤ s.size ∧ i = .int .i64 k ∧ nn = .int .i64 n ∧ n ≤ 4095 ∧ R = octalL ((L s).drop k) n) (fun _ i => s.size - (intOf i).toNat)
      case atStart => exact ⟨0, 0, by omega, rfl, rfl, by omega, HR0.out⟩
      case round =>
        obtain ⟨k, n, hks, rfl, rfl, hn, hr⟩ := hrel
        clear i0
        by_cases hlt : k < s.size
        · have i1 := run_idx (P := Tryd.prog) (k := .i64) Tryd.underlying9 s (k : Int) k rfl hlt
          rw [drop_getD (L s) hlt, octalL] at hr
          obtain ⟨y, hy⟩ : ∃ y : Nat, y = ((L s).getD k 0).toNat := ⟨_, rfl⟩
          have hy8 : y < 256 := by rw [hy]; exact UInt8.toNat_lt _
          rw [← hy] at i1 hr
          clear hy
          by_cases h1 : y < 48
          · rw [if_pos (.inl h1)] at hr
            subst hr
            go_wp2_with fail
            go_ret2
            exact ⟨rfl, rfl⟩
          · by_cases h2 : 55 < y
            · rw [if_pos (.inr h2)] at hr
              subst hr
              go_wp2_with fail
              go_ret2
              exact ⟨rfl, rfl⟩
            · rw [if_neg (by omega)] at hr
              by_cases h3 : 4095 < n * 8 + (y - 48)
              · rw [if_pos h3] at hr
                subst hr
                have h3' : 4095 < 8 * (n : Int) + ((y : Int) - 48) := by omega
                go_wp2_with fail
                go_ret2
                exact ⟨rfl, rfl⟩
              · rw [if_neg h3] at hr
                have h3' : ¬ 4095 < 8 * (n : Int) + ((y : Int) - 48) := by omega
                have HRR := Lib.hid hr
                clear hr
                go_wp2_with fail
                go_round
                case rel => exact ⟨_, _, .int .i64 ((n * 8 + (y - 48) : Nat)), .int .i64 ((k + 1 : Nat)), ⟨k + 1, by omega, rfl, _, rfl, by omega, HRR.out⟩, rfl, rfl, by go_num, by go_num⟩
                case measure => simp [intOf]; omega
        · have hR : R = (n, 0) := by rw [hr, List.drop_of_length_le (by rw [L_size]; omega)]; rfl
          subst hR
          clear hr
          go_wp2_with fail
          go_ret2
          exact ⟨rfl, rfl⟩
    · rw [if_neg hdig] at hch
      rw [hch]
      obtain ⟨R, hR⟩ : ∃ R, R = partsL dir mask (sp 44 (L s)) m := ⟨_, rfl⟩
      rw [← hR]
      have h0 := PartsAt.start (L s) dir mask m
      rw [← hR] at h0
      have HR0 := Lib.hid h0
      have HM := Lib.hid hm
      have k1 : x < 48 ∨ 57 < x := by omega
      clear hch hx hne hR h0 hdig hm
      rcases k1 with k1 | k1
      all_goals
        go_enter Tryd.func10, Tryd.ntmps10
        go_wp2_with fail
        go_loop [1, 8, 9, 12, 13] (fun mm r1 r2 ff ii => ∃ i f n : Nat, i ≤ s.size + 1 ∧ f ≤ i ∧ ii = .int .i64 i ∧ ff = .int .i64 f ∧ mm = .int .i64 n ∧ n < 4096 ∧ PartsAt (L s) dir mask R i f n) (fun _ _ _ _ ii => s.size + 1 - (intOf ii).toNat)
        case atStart => exact ⟨0, 0, m, by omega, by omega, rfl, rfl, rfl, HM.out, HR0.out⟩
        case round =>
          obtain ⟨i, f, n, hi, hfi, rfl, rfl, rfl, hn, hp⟩ := hrel
          have HN := Lib.hid hn
          have HP := Lib.hid hp
          clear hp hn i0
          by_cases hle : i ≤ s.size
          · have hsz1 : ((L s).drop f).take (i - f) = L (s.extract f i) := by rw [L_extract]
            have hsl : (s.extract f i).size ≤ 300 := Nat.le_trans (extract_len _ _ _) hs
            obtain ⟨C, hC⟩ : ∃ C, clauseL dir mask (L (s.extract f i)) n = C := ⟨_, rfl⟩
            have CC := Lib.hid (fun w => clauseRef_any (s.extract f i) n dir mask w hsl HN.out hk C hC)
            by_cases hlt : i < s.size
            · have i1 := run_idx (P := Tryd.prog) (k := .i64) Tryd.underlying9 s (i : Int) i rfl hlt
              obtain ⟨y, hy⟩ : ∃ y, (L s)[i]? = some y := ⟨_, List.getElem?_eq_getElem hlt⟩
              have hyd : (L s).getD i 0 = y := by rw [List.getD, hy]; rfl
              rw [hyd] at i1
              by_cases h44 : y = 44
              · have hgo := HP.out.comma (by rw [hy, h44])
                rw [hsz1] at hgo
                have ht : (((y.toNat : Nat) : Int) == 44) = true := by rw [h44]; rfl
                clear hy hyd h44
                cases C with
                | none =>
                  have hR : R = none := hgo.1 hC
                  subst hR
                  simp only [actV] at CC
                  clear hsz1 hsl hC hgo
                  go_wp2_with (go_at_call 23; refine (CC.out _).mono ?_; rintro e w' ⟨rfl, rfl⟩)
                  go_ret2
                  exact ⟨rfl, rfl⟩
                | some q =>
                  have HQ : Hid (q < 4096) := Lib.hid (clauseL_lt HN.out hC)
                  have HGO := Lib.hid (hgo.2 q hC)
                  simp only [actV] at CC
                  clear hsz1 hsl hC hgo
                  go_wp2_with (go_at_call 23; refine (CC.out _).mono ?_; rintro e w' ⟨rfl, rfl⟩)
                  go_round
                  case rel => exact ⟨i + 1, i + 1, q, by omega, by omega, by go_num, by go_num, rfl, HQ.out, HGO.out⟩
                  case measure => simp [intOf]; omega
              · have HST := Lib.hid (HP.out.step hy h44)
                have ht : (((y.toNat : Nat) : Int) == 44) = false := ne_byte h44
                clear hy hyd h44 hsz1 hsl hC CC
                go_wp2_with fail
                go_round
                case rel => exact ⟨i + 1, f, n, by omega, by omega, by go_num, rfl, rfl, HN.out, HST.out⟩
                case measure => simp [intOf]; omega
            · have hgo := HP.out.last (show i = s.size by omega)
              rw [hsz1] at hgo
              cases C with
              | none =>
                have hR : R = none := hgo.1 hC
                subst hR
                simp only [actV] at CC
                clear hsz1 hsl hC hgo
                go_wp2_with (go_at_call 23; refine (CC.out _).mono ?_; rintro e w' ⟨rfl, rfl⟩)
                go_ret2
                exact ⟨rfl, rfl⟩
              | some q =>
                have HQ : Hid (q < 4096) := Lib.hid (clauseL_lt HN.out hC)
                have HGO := Lib.hid (hgo.2 q hC)
                simp only [actV] at CC
                clear hsz1 hsl hC hgo
                go_wp2_with (go_at_call 23; refine (CC.out _).mono ?_; rintro e w' ⟨rfl, rfl⟩)
                go_round
                case rel => exact ⟨i + 1, i + 1, q, by omega, by omega, by go_num, by go_num, rfl, HQ.out, HGO.out⟩
                case measure => simp [intOf]; omega
          · have hR : R = some n := HP.out.done (show s.size < i by omega)
            subst hR
            go_wp2_with fail
            go_ret2
            exact ⟨rfl, rfl⟩
end Go.Proofs.YtbfplannbhafeaaDoor
