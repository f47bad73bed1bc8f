/-
  That few texts leave a number free; the walk of TagRises.
-/
import Derived.Test.YtkeinpifbiiodaaW6
namespace Go.Proofs.Ytkeinpifbiiodaa
open Go.RowKit

/-! ### plain -/
theorem not_all_in : ∀ (n : Nat) (l : List Nat) (a : Nat), l.length ≤ n → ∃ k, a ≤ k ∧ k ≤ a + n ∧ k ∉ l := by
  intro n
  induction n with
  | zero =>
    intro l a hl
    have : l = [] := List.length_eq_zero_iff.1 (by omega)
    subst this
    exact ⟨a, by omega, by omega, by simp⟩
  | succ n ih =>
    intro l a hl
    by_cases h : a + (n + 1) ∈ l
    · obtain ⟨k, h1, h2, h3⟩ := ih (l.erase (a + (n + 1))) a (by rw [List.length_erase_of_mem h]; omega)
      exact ⟨k, h1, by omega, fun hk => h3 ((List.mem_erase_of_ne (by omega)).2 hk)⟩
    · exact ⟨a + (n + 1), by omega, by omega, h⟩

/-- The number of letters. -/
def dec : List UInt8 → Nat := fun l => l.foldl (fun n c => n * 26 + (c.toNat - 65)) 0
theorem dec_lets (k : Nat) (h : k < 11881376) : dec (lets 5 k) = k := by
  have t : ∀ x : Nat, x < 26 → (UInt8.ofNat (65 + x)).toNat - 65 = x := fun x hx => by simp; omega
  rw [lets5]
  simp only [dec, List.foldl_cons, List.foldl_nil]
  rw [t _ (by omega), t _ (by omega), t _ (by omega), t _ (by omega), t _ (by omega)]
  omega

theorem lets5_len (k : Nat) : (lets 5 k).length = 5 := by simp [lets]
theorem lets_inj {m n : Nat} (hm : m < 11881376) (hn : n < 11881376) (h : lets 5 m = lets 5 n) : m = n := by rw [← dec_lets m hm, h, dec_lets n hn]

/-- The numbers whose halves may stand in a text. -/
def bad (s : List UInt8) : List Nat := (List.range s.length).map fun i => dec ((s.drop (i + 2)).take 5)

theorem bad_of {s : List UInt8} {k : Nat} {h : List UInt8} (hh : h.length = 2) (hk : k < 11881376) (ho : occ s (h ++ lets 5 k) = true) : k ∈ bad s := by
  obtain ⟨i, h1, h2⟩ := (occ_iff _ _).1 ho
  have hl : (h ++ lets 5 k).length = 7 := by simp [hh, lets5_len]
  rw [hl] at h1 h2
  refine List.mem_map.2 ⟨i, List.mem_range.2 (by omega), ?_⟩
  have : (s.drop (i + 2)).take 5 = ((s.drop i).take 7).drop 2 := by rw [List.drop_take, List.drop_drop]
  rw [this, h2, List.drop_append_of_le_length (by omega), List.drop_of_length_le (by omega), List.nil_append, dec_lets k hk]

theorem free_or_bad {ss : List ByteArray} {k : Nat} (hk : k < 11881376) (h : k ∉ ss.flatMap fun s => bad (L s)) : freeB k ss = true := by
  simp only [freeB, List.all_eq_true]
  intro s hs
  have hn : k ∉ bad (L s) := fun hb => h (List.mem_flatMap.2 ⟨s, hs, hb⟩)
  cases h1 : occ (L s) (halfB k)
  · cases h2 : occ (L s) (halfE k)
    · rfl
    · exact absurd (bad_of (h := [69, 81]) rfl hk h2) hn
  · exact absurd (bad_of (h := [66, 81]) rfl hk h1) hn

theorem bad_len : ∀ (ss : List ByteArray), (∀ s ∈ ss, s.size ≤ 500) → (ss.flatMap fun s => bad (L s)).length ≤ 500 * ss.length
  | [], _ => by simp
  | s :: ss, h => by
    have h1 := bad_len ss (fun x hx => h x (by simp [hx]))
    have h2 := h s (by simp)
    simp only [List.flatMap_cons, List.length_append, List.length_cons]
    have : (bad (L s)).length = s.size := by simp [bad, L_size]
    omega

/-- With few and short texts the first free number is near. -/
theorem first_near {ss : List ByteArray} (hs : smallB ss = true) (a : Nat) (ha : a < 100000) {m : Option Nat} (hm : IsFirst ss a m) : ∃ k, m = some k ∧ a ≤ k ∧ k ≤ a + 15000 ∧ freeB k ss = true := by
  obtain ⟨h1, h2⟩ := small_sizes hs
  have hl := bad_len ss h1
  obtain ⟨k, hk1, hk2, hk3⟩ := not_all_in 15000 (ss.flatMap fun s => bad (L s)) a (by omega)
  have hf := free_or_bad (show k < 11881376 by omega) hk3
  cases m with
  | none => have := hm k hk1 (by omega); rw [hf] at this; cases this
  | some q =>
    obtain ⟨a1, a2, a3, a4⟩ := hm
    refine ⟨q, rfl, a1, ?_, a3⟩
    rcases Nat.lt_or_ge k q with h | h
    · have := a4 k hk1 h; rw [hf] at this; cases this
    · omega

theorem occ_part {s a b c : List UInt8} (h : occ s (a ++ b ++ c) = true) : occ s b = true := by
  obtain ⟨i, h1, h2⟩ := (occ_iff _ _).1 h
  refine (occ_iff _ _).2 ⟨i + a.length, by simp at h1; omega, ?_⟩
  have : (s.drop (i + a.length)).take b.length = (((s.drop i).take (a ++ b ++ c).length).drop a.length).take b.length := by
    rw [List.drop_take, List.take_take, List.drop_drop, Nat.min_eq_left (by simp)]
  rw [this, h2]
  simp

theorem tag_free {ss : List ByteArray} {k : Nat} (hf : freeB k ss = true) {s : ByteArray} (hs : s ∈ ss) : occ (L s) (tagL k) = false := by
  simp only [freeB, List.all_eq_true] at hf
  have := hf s hs
  cases h : occ (L s) (tagL k)
  · rfl
  · have h2 := occ_part (a := []) (b := halfB k) (c := [95, 83, 69, 65, 66, 65, 71, 95] ++ halfE k) (s := L s) h
    rw [h2] at this; simp at this

theorem tag_ne {m n : Nat} (hm : m < 11881376) (hn : n < 11881376) (h : m ≠ n) : tagL m ≠ tagL n := by
  intro e
  have := congrArg (fun l => (l.drop 2).take 5) e
  simp only [tagL, halfB] at this
  exact h (lets_inj hm hn (by simpa [List.take_append_of_le_length, lets5_len] using this))

/-! ### the walk -/
set_option maxRecDepth 100000 in
set_option maxHeartbeats 800000 in
theorem rises_any (a : Option Addr) (n cap : Nat) (ss : List ByteArray) (w : World) (h : Elems w w.heap.size a n (ss.map .string)) (hv : Held w) :
    Calls Try.prog 6 #[.slice a n cap] w fun e w' => e = .returned (.bool true) ∧ Below w.heap.size w w' := by
  obtain ⟨b, off, hix, hB, hc⟩ := h.open (P := Try.prog) 22 9 Try.underlying22 (by kernel_rfl)
  have hl : ss.length = n := by simpa using h.1
  have hmx := h.2.1
  unfold maxLen at hmx
  have HL := Lib.hid hl
  have HC := Lib.hid hc
  have HB := Lib.hid hB
  have HE := Lib.hid h
  have HV := Lib.hid hv
  clear h hv hl hc hB
  by_cases hsm : smallB ss = true
  · have hs2 := small_sizes hsm
    have HS : Hid (∀ s ∈ ss, s.size ≤ 100000) := fun s hs => by have := hs2.1 s hs; omega
    obtain ⟨m, hm⟩ := first_exists ss 0
    obtain ⟨p, rfl, hp1, hp2, hp3⟩ := first_near hsm 0 (by omega) hm
    obtain ⟨q', hq⟩ := first_exists ss (p + 1)
    obtain ⟨q, rfl, hq1, hq2, hq3⟩ := first_near hsm (p + 1) (by omega) hq
    have hpq : tagL q ≠ tagL p := tag_ne (by omega) (by omega) (by omega)
    have hpb : ((S (tagL q)).toList != (S (tagL p)).toList) = true := by rw [bne_iff_ne, toList_L, toList_L, L_S, L_S]; exact hpq
    have HPB := Lib.hid hpb
    have sz1 : (S (tagL p)).size ≤ 100000 := by simp [S_size, tagL, halfB, halfE, lets]
    have sz2 : (S (tagL q)).size ≤ 100000 := by simp [S_size, tagL, halfB, halfE, lets]
    have HP3 := Lib.hid hp3
    have HQ3 := Lib.hid hq3
    have HM := Lib.hid hm
    have HQ := Lib.hid hq
    have HSM := Lib.hid hsm
    have hqp : p < q := by omega
    have hP : p < 11881376 := by omega
    have hQ : q < 11881376 := by omega
    have HHP := Lib.hid hP
    have HHQ := Lib.hid hQ
    have hp5 : (p : Int) ≤ 60000 := by omega
    clear hs2 hsm hm hq hp3 hq3 hp1 hp2 hq1 hq2 hpq hpb hP hQ
    go_enter Try.func6, Try.ntmps6
    go_wp2_with fail
    refine (anchor_any _).mono ?_
    rintro e w1 ⟨rfl, hb1⟩
    go_wp2_with fail
    refine (small_any _ _ _ w.heap.size ss _ (HE.out.below hb1)).mono ?_
    rw [HSM.out]
    rintro e w1' ⟨rfl, rfl⟩
    go_wp2_with fail
    refine (first_any 0 _ _ _ ss _ ((HE.out.below hb1).mono hb1.size) (by omega) HS.out (HV.out.below HV.out.2 hb1).1 (HV.out.below HV.out.2 hb1).2 _ HM.out).mono ?_
    simp only [resN, resE, Option.getD]
    rintro e w2 ⟨rfl, hb2⟩
    have hb3 := hb1.trans (hb2.mono hb1.size)
    go_wp2_with fail
    refine (first_any ((p : Int) + 1) _ _ _ ss _ ((HE.out.below hb3).mono hb3.size) (by omega) HS.out (HV.out.below HV.out.2 hb3).1 (HV.out.below HV.out.2 hb3).2 (some q) (by rw [show ((p : Int) + 1).toNat = p + 1 by omega]; exact HQ.out)).mono ?_
    simp only [resN, resE, Option.getD]
    rintro e w3 ⟨rfl, hb4⟩
    have hb5 := hb3.trans (hb4.mono hb3.size)
    clear hb1 hb2 hb3 hb4
    go_wp2_with fail
    go_loopw [28] (fun i wr => ∃ k : Nat, k ≤ n ∧ i = .int .i64 k ∧ Below w.heap.size w wr) (fun i _ => n - (intOf i).toNat)
    case atStart => exact ⟨0, by omega, rfl, hb5⟩
    case round =>
      obtain ⟨k, hk, rfl, hb⟩ := hrel
      by_cases hlt : k < n
      · have hk' : k < ss.length := by rw [HL.out]; exact hlt
        obtain ⟨s, hs⟩ : ∃ s, s = ss[k] := ⟨_, rfl⟩
        have hsi : s ∈ ss := by rw [hs]; exact List.getElem_mem _
        have hsm : s.size ≤ 100000 := HS.out s hsi
        have hcell : wr.cell? ⟨b, off + k, none⟩ = some (.string s) := by
          rw [hb.cell (p := ⟨b, off + k, none⟩) (by have := HB.out; show b < _; omega), HC.out k hlt, hs]; simp [hk']
        have F1 := Lib.hid (tag_free HP3.out hsi)
        have F2 := Lib.hid (tag_free HQ3.out hsi)
        clear hs hk' hsi
        go_wp2_with fail
        refine (refOf_any p _ HHP.out).mono ?_
        rintro e w5 ⟨rfl, hb6⟩
        have hb7 := hb.trans (hb6.mono hb.size)
        go_wp2_with fail
        refine (in_any _ _ _ hsm sz1).mono ?_
        rw [L_S, F1.out]
        rintro e w6 ⟨rfl, rfl⟩
        have hcell2 : w5.cell? ⟨b, off + k, none⟩ = some (.string s) := by
          rw [hb6.cell (p := ⟨b, off + k, none⟩) (by have := HB.out; have := hb.size; show b < _; omega)]; exact hcell
        go_wp2_with fail
        refine (refOf_any q _ HHQ.out).mono ?_
        rintro e w7 ⟨rfl, hb8⟩
        have hb9 := hb7.trans (hb8.mono hb7.size)
        go_wp2_with fail
        refine (in_any _ _ _ hsm sz2).mono ?_
        rw [L_S, F2.out]
        rintro e w6 ⟨rfl, rfl⟩
        go_wp2_with fail
        go_roundw
        case rel => exact ⟨k + 1, by omega, by go_num, hb9⟩
        case measure => simp [intOf]; omega
      · go_wp2_with fail
        refine (of_any q _ HHQ.out).mono ?_
        rintro e w5 ⟨rfl, hb6⟩
        have hb7 := hb.trans (hb6.mono hb.size)
        go_wp2_with fail
        refine (of_any p _ HHP.out).mono ?_
        rintro e w6 ⟨rfl, hb8⟩
        have hb9 := hb7.trans (hb8.mono hb7.size)
        go_wp2_with fail
        go_ret
        exact ⟨ret_bool HPB.out, hb9⟩
  · have hsm' : smallB ss = false := by simpa using hsm
    go_enter Try.func6, Try.ntmps6
    go_wp2_with fail
    refine (anchor_any _).mono ?_
    rintro e w1 ⟨rfl, hb1⟩
    go_wp2_with fail
    refine (small_any _ _ _ w.heap.size ss _ (HE.out.below hb1)).mono ?_
    rintro e w1' ⟨rfl, rfl⟩
    rw [hsm']
    go_wp2_with fail
    go_ret
    exact ⟨rfl, hb1⟩
end Go.Proofs.Ytkeinpifbiiodaa
