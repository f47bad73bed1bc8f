/-
  The walk of PatStars.
-/
import Derived.Test.YtiacoomeakodnaaG13
import Derived.Deep.RegionHeld3
namespace Go.Proofs.Ytiacoomeakodnaa
open Go.RowKit

theorem stars_comp (s : ByteArray) : comp (signsOf [⟨⟨#[42]⟩, false⟩, ⟨s, true⟩, ⟨⟨#[42]⟩, false⟩]) = ⟨42, 0, false, []⟩ :: (bytesP (L s) ++ [⟨42, 0, false, []⟩]) := by
  have h := comp_quoted (L s) [⟨42, false⟩]
  rw [comp_lone] at h
  rw [← h, ← comp_sign (c := ⟨42, false⟩) (by rfl)]
  simp [signsOf, signsP]

/-- Does s stand in t, at a place ahead of k? -/
def occT (s t : List UInt8) (k : Nat) : Bool := (List.range k).any fun i => (t.drop i).take s.length == s
theorem occT_succ (s t : List UInt8) (k : Nat) : occT s t (k + 1) = (occT s t k || (t.drop k).take s.length == s) := by
  simp [occT, List.range_succ]
theorem stars_match (s t : List UInt8) (k : Nat) (hk : ¬ k + s.length ≤ t.length) (hk2 : k ≤ t.length + 1) : matchP (⟨42, 0, false, []⟩ :: (bytesP s ++ [⟨42, 0, false, []⟩])) t = occT s t k := by
  rw [matchP_star rfl, Bool.eq_iff_iff, anyT_iff, occT, List.any_eq_true]
  constructor
  · rintro ⟨n, hn, h⟩
    rw [matchP_bytes, matchP_any, Bool.and_true, List.isPrefixOf_iff_prefix] at h
    have h2 := h.length_le
    rw [List.length_drop] at h2
    exact ⟨n, by simp; omega, by rw [beq_iff_eq]; exact (List.prefix_iff_eq_take.1 h).symm⟩
  · rintro ⟨n, hn, h⟩
    rw [beq_iff_eq] at h
    simp at hn
    refine ⟨n, by omega, ?_⟩
    rw [matchP_bytes, matchP_any, Bool.and_true, List.isPrefixOf_iff_prefix]
    exact List.prefix_iff_eq_take.2 h.symm

set_option maxHeartbeats 2000000 in
theorem stars_any (s t : ByteArray) (w : World) (hs0 : s.size ≤ maxLen) (ht0 : t.size ≤ maxLen) :
    Calls Try.prog 5 #[.string s, .string t] w fun e w' => e = .returned (.bool true) ∧ Below w.heap.size w w' := by
  unfold maxLen at hs0 ht0
  by_cases hbs : 40 < s.size
  · skip
    go_enter Try.func5, Try.ntmps5
    go_wp2_with fail
    refine (anchor_any _).mono ?_
    rintro e w1 ⟨rfl, hb1⟩
    go_wp2
    go_ret
    exact ⟨rfl, hb1⟩
  by_cases hbt : 200 < t.size
  · skip
    go_enter Try.func5, Try.ntmps5
    go_wp2_with fail
    refine (anchor_any _).mono ?_
    rintro e w1 ⟨rfl, hb1⟩
    go_wp2
    go_ret
    exact ⟨rfl, hb1⟩
  have hs : s.size ≤ 40 := by omega
  have ht : t.size ≤ 200 := by omega
  have CE := Lib.hid (fun W => escape_any s W (by omega))
  have C1 : Hid (∀ (W : World) (g : Nat), g = W.heap.size → Calls Try.prog 12 #[.slice (some ⟨g, 0, none⟩) 3 3] (W.alloc (.cells #[.string ⟨#[42]⟩, .bool false, .string s, .bool true, .string ⟨#[42]⟩, .bool false] 41)) (CompAt (W.alloc (.cells #[.string ⟨#[42]⟩, .bool false, .string s, .bool true, .string ⟨#[42]⟩, .bool false] 41)) (⟨42, 0, false, []⟩ :: (bytesP (L s) ++ [⟨42, 0, false, []⟩])))) := Lib.hid fun W g hg => by
    rw [← stars_comp]
    exact (comp_any [⟨⟨#[42]⟩, false⟩, ⟨s, true⟩, ⟨⟨#[42]⟩, false⟩] _ _ (sl_made_at W #[.string ⟨#[42]⟩, .bool false, .string s, .bool true, .string ⟨#[42]⟩, .bool false] _ 3 2 rfl (by unfold maxLen; omega) hg) (by simp [signsOf, signsP, L_size]; omega)).mono fun e w' h => CompAt.of h
  clear hs0 ht0
  go_enter Try.func5, Try.ntmps5
  go_wp2_with fail
  refine (anchor_any _).mono ?_
  rintro e w1 ⟨rfl, hb1⟩
  have HB1 := Lib.hid hb1
  clear hb1
  go_wp2_with fail
  go_loop [5, 6] (fun f i => ∃ k : Nat, k ≤ t.size + 1 ∧ i = .int .i64 k ∧ f = .bool (occT (L s) (L t) k)) (fun _ i => t.size + 1 - (intOf i).toNat)
  case atStart => exact ⟨0, Nat.zero_le _, rfl, rfl⟩
  case round =>
    obtain ⟨k, hk, rfl, rfl⟩ := hrel
    obtain ⟨q, hq⟩ : ∃ q, occT (L s) (L t) k = q := ⟨_, rfl⟩
    rw [hq]
    have HQ := Lib.hid hq
    clear hq
    by_cases hlt : k + s.size ≤ t.size
    · have ho := occT_succ (L s) (L t) k
      obtain ⟨r, hr⟩ : ∃ r, ((t.extract k (k + s.size)).toList == s.toList) = r := ⟨_, rfl⟩
      rw [HQ.out, show ((L t).drop k).take (L s).length = (t.extract k (k + s.size)).toList by rw [toList_L, L_extract, show k + s.size - k = (L s).length by rw [L_size]; omega], ← toList_L s, hr] at ho
      rw [toList_L s] at ho
      have HO := Lib.hid ho
      clear ho
      cases q
      · go_wp2
        go_round
        case rel => exact ⟨k + 1, by omega, by go_num, by rw [HO.out]; rfl⟩
        case measure => simp [intOf]; omega
      · go_wp2
        go_round
        case rel => exact ⟨k + 1, by omega, by go_num, by rw [HO.out]; rfl⟩
        case measure => simp [intOf]; omega
    · have HM := Lib.hid (stars_match (L s) (L t) k hlt hk)
      go_wp2_with fail
      obtain ⟨w2, hw2⟩ : ∃ w2, w2 = w1.alloc (.cells #[.string ⟨#[42]⟩, .bool false] 41) := ⟨_, rfl⟩
      rw [← hw2]
      have HB2 : Hid (Below w.heap.size w w2) := Lib.hid (by rw [hw2]; exact Below.alloc HB1.out HB1.out.size _)
      have hb : w1.heap.size < w2.heap.size := by rw [hw2]; simp
      have hBl := Blk.new w1 41 #[.string ⟨#[42]⟩, .bool false]
      rw [← hw2] at hBl
      have z0 := hBl.cell 0
      have z1 := hBl.cell 1
      simp at z0 z1
      clear hw2 hBl
      go_region_held3 (fun w' => w'.cell? ⟨w1.heap.size, 0, none⟩ = some (.string ⟨#[42]⟩) ∧ w'.cell? ⟨w1.heap.size, 1, none⟩ = some (.bool false)) (go_keep) (first | (go_at_call 17; refine (CE.out _).mono ?_; rintro e w3 ⟨rfl, hb3⟩; have e0 := hb3.cell (p := ⟨w1.heap.size, 0, none⟩) (by simp; omega); have e1 := hb3.cell (p := ⟨w1.heap.size, 1, none⟩) (by simp; omega); have hz3 := hb3.size; simp at hz3) | (go_at_call 12; refine (C1.out _ _ (by simp)).mono ?_; rintro e w4 ⟨hb4, va, vn, vc, rfl, hp⟩; have f0 := hb4.cell (p := ⟨w1.heap.size, 0, none⟩) (by simp; omega); have f1 := hb4.cell (p := ⟨w1.heap.size, 1, none⟩) (by simp; omega); have hz4 := hb4.size; simp at hz4) | (go_at_call 10; refine ((match_at hp t _ HM.out (by simp [bytesP, L_size]; omega) (by omega)).out _ (Below.refl _ _)).mono ?_; rintro e w5 ⟨rfl, hb5⟩; have g0 := hb5.cell (p := ⟨w1.heap.size, 0, none⟩) (by show w1.heap.size < _; omega); have g1 := hb5.cell (p := ⟨w1.heap.size, 1, none⟩) (by show w1.heap.size < _; omega)))
      all_goals
        have hf1 := HB2.out.drew
        have hf2 := hf1.trans (hb3.mono hf1.size)
        have hf3 := hf2.alloc (o := .cells #[.string ⟨#[42]⟩, .bool false, .string s, .bool true, .string ⟨#[42]⟩, .bool false] 41) hf2.size
        have hf4 := hf3.trans (hb4.mono hf3.size)
        have HF := Lib.hid (hf4.trans (hb5.mono hf4.size))
        clear e0 e1 f0 f1 g0 g1 hb3 hb4 hb5 hp hf1 hf2 hf3 hf4
        rw [HQ.out]
        go_wp2
        go_ret
        exact ⟨ret_bool (by simp), HF.out⟩
end Go.Proofs.Ytiacoomeakodnaa
