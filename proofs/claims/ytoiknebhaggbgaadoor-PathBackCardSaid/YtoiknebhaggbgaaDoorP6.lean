/-
  The plain law of PathJoins, and its walk.
-/
import Derived.Test.YtoiknebhaggbgaaDoorP5
namespace Go.Proofs.YtoiknebhaggbgaaDoor
open Go.RowKit

theorem nameB_facts {l : List UInt8} (h : nameB l = true) : l ≠ [] ∧ (47 : UInt8) ∉ l := by
  simp only [nameB, Bool.and_eq_true, decide_eq_true_eq, Bool.not_eq_true', hasB] at h
  obtain ⟨⟨⟨⟨⟨h1, _⟩, h2⟩, _⟩, _⟩, _⟩ := h
  refine ⟨fun e => by rw [e] at h1; simp at h1, fun hm => ?_⟩
  rw [List.contains_eq_mem] at h2
  simp [hm] at h2

theorem plainB_facts {s : ByteArray} (h : plainB s = true) : L s ≠ [] ∧ (L s).getD (s.size - 1) 0 ≠ 47 := by
  simp only [plainB, Bool.and_eq_true] at h
  obtain ⟨h1, h2⟩ := h
  have hne : L s ≠ [] := by
    intro e
    rw [e] at h2
    simp [rightB] at h2
  refine ⟨hne, fun h47 => ?_⟩
  have hpos : 0 < s.size := List.length_pos_iff.2 hne
  have hf := (piecesTo_spec s s.size).2.2 ⟨hpos, h47⟩
  have hm : s.extract (piecesTo s s.size).2 s.size ∈ piecesS s := by rw [piecesS]; simp
  have hn := List.all_eq_true.1 h1 _ hm
  have h0 := (nameB_facts hn).1
  rw [hf] at h0
  apply h0
  rw [L_extract, Nat.sub_self, List.take_zero]

theorem getD_app_left {a b : List UInt8} {i : Nat} (h : i < a.length) : (a ++ b).getD i 0 = a.getD i 0 := by
  simp only [List.getD]; rw [List.getElem?_append_left h]
theorem getD_app_right {a b : List UInt8} {i : Nat} (h : a.length ≤ i) : (a ++ b).getD i 0 = b.getD (i - a.length) 0 := by
  simp only [List.getD]; rw [List.getElem?_append_right h]
theorem getD_mem {l : List UInt8} {i : Nat} (h : i < l.length) : l.getD i 0 ∈ l := by
  simp only [List.getD]; rw [List.getElem?_eq_getElem h]; exact List.getElem_mem h

theorem bareL_id {l : List UInt8} (h : l.getD (l.length - 1) 0 ≠ 47) : bareL l = l := by
  rw [bareL]
  cases hn : l.length with
  | zero => rw [List.length_eq_zero_iff.1 hn]; rfl
  | succ n =>
    rw [cutTo_stop l n (fun h' => h (by rw [hn]; exact h'.2)), ← hn, List.take_length]

theorem lastTo_app (a b : List UInt8) (hb : (47 : UInt8) ∉ b) : ∀ n, n ≤ b.length → lastTo (a ++ [47] ++ b) (a.length + 1 + n) = a.length
  | 0, _ => by
    have e : (a ++ [47] ++ b).getD a.length 0 = 47 := by
      rw [List.append_assoc, getD_app_right (Nat.le_refl _), Nat.sub_self]; rfl
    rw [Nat.add_zero, lastTo_yes e]
  | n + 1, h => by
    have e : (a ++ [47] ++ b).getD (a.length + 1 + n) 0 ≠ 47 := by
      rw [getD_app_right (by simp)]
      intro h47
      have : (a.length + 1 + n - (a ++ [47]).length) = n := by simp
      rw [this] at h47
      exact hb (h47 ▸ getD_mem (by omega))
    rw [show a.length + 1 + (n + 1) = (a.length + 1 + n) + 1 by omega, lastTo_no e]
    exact lastTo_app a b hb n (by omega)

/-- What a plain path and a name make. -/
theorem joins_law {a b : List UInt8} (ha : a ≠ []) (ha2 : a.getD (a.length - 1) 0 ≠ 47) (hb : b ≠ []) (hb2 : (47 : UInt8) ∉ b) :
    joinL a b = a ++ [47] ++ b ∧ underB (joinL a b) a = true ∧ baseL (joinL a b) = b ∧ dirL (joinL a b) = a := by
  have hap := List.length_pos_iff.2 ha
  have hbp := List.length_pos_iff.2 hb
  have hj : joinL a b = a ++ [47] ++ b := by rw [joinL, if_neg ha, if_neg ha2]
  have hlen : (a ++ [47] ++ b).length = a.length + 1 + b.length := by simp; omega
  have hlast : lastL (a ++ [47] ++ b) = a.length := by
    rw [lastL, hlen]; exact lastTo_app a b hb2 b.length (Nat.le_refl _)
  have hbare : bareL (a ++ [47] ++ b) = a ++ [47] ++ b := bareL_id (by
    rw [hlen, getD_app_right (by simp; omega)]
    intro h
    exact hb2 (h ▸ getD_mem (by simp; omega)))
  have hne : a ++ [47] ++ b ≠ [47] := fun h => by
    have := congrArg List.length h
    rw [hlen] at this
    simp at this; omega
  have hn1 : ((a.length : Int) + 1).toNat = (a ++ [47]).length := by simp
  refine ⟨hj, ?_, ?_, ?_⟩
  · rw [hj, underB, hlen, decide_eq_true (by omega), List.append_assoc, List.take_left, getD_app_right (Nat.le_refl _), Nat.sub_self]
    simp
  · rw [hj, baseL, hbare, if_neg hne, hlast, hn1, List.drop_left]
  · rw [hj, dirL, hbare, if_neg hne, hlast, if_neg (by omega), hn1, List.take_left, bareL]
    have e : (a ++ [47]).length = a.length + 1 := by simp
    rw [e, cutTo_step (a ++ [47]) a.length ⟨hap, by rw [getD_app_right (Nat.le_refl _), Nat.sub_self]; rfl⟩]
    obtain ⟨m, hm⟩ : ∃ m, a.length = m + 1 := ⟨a.length - 1, by omega⟩
    rw [hm, cutTo_stop (a ++ [47]) m (fun h => ha2 (by
      have := h.2
      rw [getD_app_left (by omega)] at this
      rw [hm]; exact this)), ← hm, List.take_left]

set_option maxRecDepth 100000 in
set_option maxHeartbeats 4000000 in
theorem joins_any (a b : ByteArray) (w : World) (ha0 : a.size ≤ 140737488355327) (hb0 : b.size ≤ 140737488355327) :
    Calls Tryd.prog 4 #[.string a, .string b] w fun e w' => e = .returned (.bool true) ∧ Below w.heap.size w w' := by
  by_cases hs : a.size + b.size ≤ 5000
  · have ha : a.size ≤ 100000 := by omega
    have hb : b.size ≤ 100000 := by omega
    obtain ⟨j, hj⟩ : ∃ j, j = S (joinL (L a) (L b)) := ⟨_, rfl⟩
    have hjs : j.size ≤ 100000 := by
      rw [hj, S_size, joinL]
      have h1 := L_size a
      have h2 := L_size b
      split
      · omega
      · split <;> simp <;> omega
    obtain ⟨u, hu⟩ : ∃ u, u = underB (L a) (L b) := ⟨_, rfl⟩
    have C1 := Lib.hid (fun w => join_any a b w ha hb)
    have C2 := Lib.hid (fun w => refJoin_any a b w ha hb)
    have C3 := Lib.hid (fun w => under_any a b w)
    have C4 := Lib.hid (fun w => above_any a w ha)
    have C5 := Lib.hid (fun w => refAbove_any a w ha)
    have CP := Lib.hid (fun w => refPlain_any a w ha)
    have CN := Lib.hid (fun w => refName_any b w hb)
    have hlen : (aboveTo a a.size).length ≤ maxLen := by have := aboveTo_len a a.size; unfold maxLen; omega
    obtain ⟨xs, hxs⟩ : ∃ xs, xs = aboveTo a a.size := ⟨_, rfl⟩
    rw [← hxs] at C4 C5 hlen
    rw [← hj] at C1 C2
    rw [← hu] at C3
    have HLEN := Lib.hid hlen
    have hund : u = (decide (b.size < a.size) && ((a.extract 0 b.size).toList == b.toList) && ((((L a).getD b.size 0).toNat : Int) == 47)) := by
      have e1 : ((((L a).getD b.size 0).toNat : Int) == 47) = ((L a).getD b.size 0 == 47) := by
        by_cases h : (L a).getD b.size 0 = 47
        · rw [eq47 h, h]; rfl
        · rw [ne47 h]; exact (beq_eq_false_iff_ne.2 h).symm
      rw [hu, underB, e1, S_extract_to, toList_S, toList_L]; rfl
    have hlaw : plainB a = true → nameB (L b) = true → underB (L j) (L a) = true ∧ S (baseL (L j)) = b ∧ S (dirL (L j)) = a := fun h1 h2 => by
      obtain ⟨k1, k2⟩ := plainB_facts h1
      obtain ⟨k3, k4⟩ := nameB_facts h2
      obtain ⟨_, l2, l3, l4⟩ := joins_law k1 k2 k3 k4
      rw [hj, L_S, l2, l3, l4, S_L, S_L]
      exact ⟨rfl, rfl, rfl⟩
    have C6 := Lib.hid (fun w => under_any j a w)
    have C7 := Lib.hid (fun w => base_any j w hjs)
    have C8 := Lib.hid (fun w => dir_any j w hjs)
    clear hxs hu hj hlen
    obtain ⟨p, hp⟩ : ∃ p, p = plainB a := ⟨_, rfl⟩
    obtain ⟨n, hn⟩ : ∃ n, n = nameB (L b) := ⟨_, rfl⟩
    rw [← hp] at CP
    rw [← hn] at CN
    rw [← hp, ← hn] at hlaw
    clear hp hn
    cases p with
    | false =>
      clear hlaw C6 C7 C8 CN
      by_cases h1 : b.size < a.size
      · have i0 := run_idx (P := Tryd.prog) (k := .i64) Tryd.underlying9 a (b.size : Int) b.size rfl h1
        rw [decide_eq_true h1, Bool.true_and] at hund
        obtain ⟨c, hc⟩ : ∃ c, c = (L a).getD b.size 0 := ⟨_, rfl⟩
        rw [← hc] at i0 hund
        clear hc
        cases e2 : (a.extract 0 b.size).toList == b.toList with
        | false =>
          have hu : u = false := by rw [hund, e2]; rfl
          subst hu
          clear hund
          go_enter Tryd.func4, Tryd.ntmps4
          go_wp2_with fail
          refine (anchor_any _).mono ?_
          rintro e w1 ⟨rfl, rfl⟩
          go_wp2_with fail
          refine (C1.out _).mono ?_
          rintro e w1 ⟨rfl, rfl⟩
          go_wp2_with fail
          refine (C2.out _).mono ?_
          rintro e w1 ⟨rfl, rfl⟩
          go_wp2_with fail
          refine (C3.out _).mono ?_
          rintro e w1 ⟨rfl, rfl⟩
          go_wp2_with fail
          refine (C4.out _).mono ?_
          rintro e w2 ⟨v, rfl, hown, hb2⟩
          obtain ⟨a1, c1, rfl, hE1⟩ := hown.elems HLEN.out
          clear hown
          go_wp2_with fail
          refine (C5.out _).mono ?_
          rintro e w3 ⟨v, rfl, hown, hb3⟩
          obtain ⟨a2, c2, rfl, hE2⟩ := hown.elems HLEN.out
          have hb4 := hb2.trans (hb3.mono hb2.size)
          have C9 := Lib.hid (same_any a1 a2 _ c1 c2 xs w3 w3.heap.size ((hE1.below hb3).mono hb3.size) hE2)
          clear hown hE1 hE2 hb2 hb3
          go_wp2_with fail
          refine C9.out.mono ?_
          rintro e w4 ⟨rfl, hb5⟩
          have hb6 := hb4.trans (hb5.mono hb4.size)
          clear hb4 hb5
          go_wp2_with fail
          refine (CP.out _).mono ?_
          rintro e w5 ⟨rfl, hb7⟩
          have hb8 := hb6.trans (hb7.mono hb6.size)
          clear hb6 hb7
          go_wp2_with fail
          go_ret
          exact ⟨rfl, hb8⟩
        | true =>
          rw [e2, Bool.true_and] at hund
          cases e3 : ((c.toNat : Nat) : Int) == 47 with
          | false =>
            have hu : u = false := by rw [hund, e3]
            subst hu
            clear hund
            go_enter Tryd.func4, Tryd.ntmps4
            go_wp2_with fail
            refine (anchor_any _).mono ?_
            rintro e w1 ⟨rfl, rfl⟩
            go_wp2_with fail
            refine (C1.out _).mono ?_
            rintro e w1 ⟨rfl, rfl⟩
            go_wp2_with fail
            refine (C2.out _).mono ?_
            rintro e w1 ⟨rfl, rfl⟩
            go_wp2_with fail
            refine (C3.out _).mono ?_
            rintro e w1 ⟨rfl, rfl⟩
            go_wp2_with fail
            refine (C4.out _).mono ?_
            rintro e w2 ⟨v, rfl, hown, hb2⟩
            obtain ⟨a1, c1, rfl, hE1⟩ := hown.elems HLEN.out
            clear hown
            go_wp2_with fail
            refine (C5.out _).mono ?_
            rintro e w3 ⟨v, rfl, hown, hb3⟩
            obtain ⟨a2, c2, rfl, hE2⟩ := hown.elems HLEN.out
            have hb4 := hb2.trans (hb3.mono hb2.size)
            have C9 := Lib.hid (same_any a1 a2 _ c1 c2 xs w3 w3.heap.size ((hE1.below hb3).mono hb3.size) hE2)
            clear hown hE1 hE2 hb2 hb3
            go_wp2_with fail
            refine C9.out.mono ?_
            rintro e w4 ⟨rfl, hb5⟩
            have hb6 := hb4.trans (hb5.mono hb4.size)
            clear hb4 hb5
            go_wp2_with fail
            refine (CP.out _).mono ?_
            rintro e w5 ⟨rfl, hb7⟩
            have hb8 := hb6.trans (hb7.mono hb6.size)
            clear hb6 hb7
            go_wp2_with fail
            go_ret
            exact ⟨rfl, hb8⟩
          | true =>
            have hu : u = true := by rw [hund, e3]
            subst hu
            clear hund
            go_enter Tryd.func4, Tryd.ntmps4
            go_wp2_with fail
            refine (anchor_any _).mono ?_
            rintro e w1 ⟨rfl, rfl⟩
            go_wp2_with fail
            refine (C1.out _).mono ?_
            rintro e w1 ⟨rfl, rfl⟩
            go_wp2_with fail
            refine (C2.out _).mono ?_
            rintro e w1 ⟨rfl, rfl⟩
            go_wp2_with fail
            refine (C3.out _).mono ?_
            rintro e w1 ⟨rfl, rfl⟩
            go_wp2_with fail
            refine (C4.out _).mono ?_
            rintro e w2 ⟨v, rfl, hown, hb2⟩
            obtain ⟨a1, c1, rfl, hE1⟩ := hown.elems HLEN.out
            clear hown
            go_wp2_with fail
            refine (C5.out _).mono ?_
            rintro e w3 ⟨v, rfl, hown, hb3⟩
            obtain ⟨a2, c2, rfl, hE2⟩ := hown.elems HLEN.out
            have hb4 := hb2.trans (hb3.mono hb2.size)
            have C9 := Lib.hid (same_any a1 a2 _ c1 c2 xs w3 w3.heap.size ((hE1.below hb3).mono hb3.size) hE2)
            clear hown hE1 hE2 hb2 hb3
            go_wp2_with fail
            refine C9.out.mono ?_
            rintro e w4 ⟨rfl, hb5⟩
            have hb6 := hb4.trans (hb5.mono hb4.size)
            clear hb4 hb5
            go_wp2_with fail
            refine (CP.out _).mono ?_
            rintro e w5 ⟨rfl, hb7⟩
            have hb8 := hb6.trans (hb7.mono hb6.size)
            clear hb6 hb7
            go_wp2_with fail
            go_ret
            exact ⟨rfl, hb8⟩
      · have hu : u = false := by rw [hund, decide_eq_false h1]; rfl
        subst hu
        clear hund
        go_enter Tryd.func4, Tryd.ntmps4
        go_wp2_with fail
        refine (anchor_any _).mono ?_
        rintro e w1 ⟨rfl, rfl⟩
        go_wp2_with fail
        refine (C1.out _).mono ?_
        rintro e w1 ⟨rfl, rfl⟩
        go_wp2_with fail
        refine (C2.out _).mono ?_
        rintro e w1 ⟨rfl, rfl⟩
        go_wp2_with fail
        refine (C3.out _).mono ?_
        rintro e w1 ⟨rfl, rfl⟩
        go_wp2_with fail
        refine (C4.out _).mono ?_
        rintro e w2 ⟨v, rfl, hown, hb2⟩
        obtain ⟨a1, c1, rfl, hE1⟩ := hown.elems HLEN.out
        clear hown
        go_wp2_with fail
        refine (C5.out _).mono ?_
        rintro e w3 ⟨v, rfl, hown, hb3⟩
        obtain ⟨a2, c2, rfl, hE2⟩ := hown.elems HLEN.out
        have hb4 := hb2.trans (hb3.mono hb2.size)
        have C9 := Lib.hid (same_any a1 a2 _ c1 c2 xs w3 w3.heap.size ((hE1.below hb3).mono hb3.size) hE2)
        clear hown hE1 hE2 hb2 hb3
        go_wp2_with fail
        refine C9.out.mono ?_
        rintro e w4 ⟨rfl, hb5⟩
        have hb6 := hb4.trans (hb5.mono hb4.size)
        clear hb4 hb5
        go_wp2_with fail
        refine (CP.out _).mono ?_
        rintro e w5 ⟨rfl, hb7⟩
        have hb8 := hb6.trans (hb7.mono hb6.size)
        clear hb6 hb7
        go_wp2_with fail
        go_ret
        exact ⟨rfl, hb8⟩
    | true =>
      cases n with
      | false =>
        clear hlaw C6 C7 C8
        by_cases h1 : b.size < a.size
        · have i0 := run_idx (P := Tryd.prog) (k := .i64) Tryd.underlying9 a (b.size : Int) b.size rfl h1
          rw [decide_eq_true h1, Bool.true_and] at hund
          obtain ⟨c, hc⟩ : ∃ c, c = (L a).getD b.size 0 := ⟨_, rfl⟩
          rw [← hc] at i0 hund
          clear hc
          cases e2 : (a.extract 0 b.size).toList == b.toList with
          | false =>
            have hu : u = false := by rw [hund, e2]; rfl
            subst hu
            clear hund
            go_enter Tryd.func4, Tryd.ntmps4
            go_wp2_with fail
            refine (anchor_any _).mono ?_
            rintro e w1 ⟨rfl, rfl⟩
            go_wp2_with fail
            refine (C1.out _).mono ?_
            rintro e w1 ⟨rfl, rfl⟩
            go_wp2_with fail
            refine (C2.out _).mono ?_
            rintro e w1 ⟨rfl, rfl⟩
            go_wp2_with fail
            refine (C3.out _).mono ?_
            rintro e w1 ⟨rfl, rfl⟩
            go_wp2_with fail
            refine (C4.out _).mono ?_
            rintro e w2 ⟨v, rfl, hown, hb2⟩
            obtain ⟨a1, c1, rfl, hE1⟩ := hown.elems HLEN.out
            clear hown
            go_wp2_with fail
            refine (C5.out _).mono ?_
            rintro e w3 ⟨v, rfl, hown, hb3⟩
            obtain ⟨a2, c2, rfl, hE2⟩ := hown.elems HLEN.out
            have hb4 := hb2.trans (hb3.mono hb2.size)
            have C9 := Lib.hid (same_any a1 a2 _ c1 c2 xs w3 w3.heap.size ((hE1.below hb3).mono hb3.size) hE2)
            clear hown hE1 hE2 hb2 hb3
            go_wp2_with fail
            refine C9.out.mono ?_
            rintro e w4 ⟨rfl, hb5⟩
            have hb6 := hb4.trans (hb5.mono hb4.size)
            clear hb4 hb5
            go_wp2_with fail
            refine (CP.out _).mono ?_
            rintro e w5 ⟨rfl, hb7⟩
            have hb8 := hb6.trans (hb7.mono hb6.size)
            clear hb6 hb7
            go_wp2_with fail
            refine (CN.out _).mono ?_
            rintro e w6 ⟨rfl, rfl⟩
            go_wp2_with fail
            go_ret
            exact ⟨rfl, hb8⟩
          | true =>
            rw [e2, Bool.true_and] at hund
            cases e3 : ((c.toNat : Nat) : Int) == 47 with
            | false =>
              have hu : u = false := by rw [hund, e3]
              subst hu
              clear hund
              go_enter Tryd.func4, Tryd.ntmps4
              go_wp2_with fail
              refine (anchor_any _).mono ?_
              rintro e w1 ⟨rfl, rfl⟩
              go_wp2_with fail
              refine (C1.out _).mono ?_
              rintro e w1 ⟨rfl, rfl⟩
              go_wp2_with fail
              refine (C2.out _).mono ?_
              rintro e w1 ⟨rfl, rfl⟩
              go_wp2_with fail
              refine (C3.out _).mono ?_
              rintro e w1 ⟨rfl, rfl⟩
              go_wp2_with fail
              refine (C4.out _).mono ?_
              rintro e w2 ⟨v, rfl, hown, hb2⟩
              obtain ⟨a1, c1, rfl, hE1⟩ := hown.elems HLEN.out
              clear hown
              go_wp2_with fail
              refine (C5.out _).mono ?_
              rintro e w3 ⟨v, rfl, hown, hb3⟩
              obtain ⟨a2, c2, rfl, hE2⟩ := hown.elems HLEN.out
              have hb4 := hb2.trans (hb3.mono hb2.size)
              have C9 := Lib.hid (same_any a1 a2 _ c1 c2 xs w3 w3.heap.size ((hE1.below hb3).mono hb3.size) hE2)
              clear hown hE1 hE2 hb2 hb3
              go_wp2_with fail
              refine C9.out.mono ?_
              rintro e w4 ⟨rfl, hb5⟩
              have hb6 := hb4.trans (hb5.mono hb4.size)
              clear hb4 hb5
              go_wp2_with fail
              refine (CP.out _).mono ?_
              rintro e w5 ⟨rfl, hb7⟩
              have hb8 := hb6.trans (hb7.mono hb6.size)
              clear hb6 hb7
              go_wp2_with fail
              refine (CN.out _).mono ?_
              rintro e w6 ⟨rfl, rfl⟩
              go_wp2_with fail
              go_ret
              exact ⟨rfl, hb8⟩
            | true =>
              have hu : u = true := by rw [hund, e3]
              subst hu
              clear hund
              go_enter Tryd.func4, Tryd.ntmps4
              go_wp2_with fail
              refine (anchor_any _).mono ?_
              rintro e w1 ⟨rfl, rfl⟩
              go_wp2_with fail
              refine (C1.out _).mono ?_
              rintro e w1 ⟨rfl, rfl⟩
              go_wp2_with fail
              refine (C2.out _).mono ?_
              rintro e w1 ⟨rfl, rfl⟩
              go_wp2_with fail
              refine (C3.out _).mono ?_
              rintro e w1 ⟨rfl, rfl⟩
              go_wp2_with fail
              refine (C4.out _).mono ?_
              rintro e w2 ⟨v, rfl, hown, hb2⟩
              obtain ⟨a1, c1, rfl, hE1⟩ := hown.elems HLEN.out
              clear hown
              go_wp2_with fail
              refine (C5.out _).mono ?_
              rintro e w3 ⟨v, rfl, hown, hb3⟩
              obtain ⟨a2, c2, rfl, hE2⟩ := hown.elems HLEN.out
              have hb4 := hb2.trans (hb3.mono hb2.size)
              have C9 := Lib.hid (same_any a1 a2 _ c1 c2 xs w3 w3.heap.size ((hE1.below hb3).mono hb3.size) hE2)
              clear hown hE1 hE2 hb2 hb3
              go_wp2_with fail
              refine C9.out.mono ?_
              rintro e w4 ⟨rfl, hb5⟩
              have hb6 := hb4.trans (hb5.mono hb4.size)
              clear hb4 hb5
              go_wp2_with fail
              refine (CP.out _).mono ?_
              rintro e w5 ⟨rfl, hb7⟩
              have hb8 := hb6.trans (hb7.mono hb6.size)
              clear hb6 hb7
              go_wp2_with fail
              refine (CN.out _).mono ?_
              rintro e w6 ⟨rfl, rfl⟩
              go_wp2_with fail
              go_ret
              exact ⟨rfl, hb8⟩
        · have hu : u = false := by rw [hund, decide_eq_false h1]; rfl
          subst hu
          clear hund
          go_enter Tryd.func4, Tryd.ntmps4
          go_wp2_with fail
          refine (anchor_any _).mono ?_
          rintro e w1 ⟨rfl, rfl⟩
          go_wp2_with fail
          refine (C1.out _).mono ?_
          rintro e w1 ⟨rfl, rfl⟩
          go_wp2_with fail
          refine (C2.out _).mono ?_
          rintro e w1 ⟨rfl, rfl⟩
          go_wp2_with fail
          refine (C3.out _).mono ?_
          rintro e w1 ⟨rfl, rfl⟩
          go_wp2_with fail
          refine (C4.out _).mono ?_
          rintro e w2 ⟨v, rfl, hown, hb2⟩
          obtain ⟨a1, c1, rfl, hE1⟩ := hown.elems HLEN.out
          clear hown
          go_wp2_with fail
          refine (C5.out _).mono ?_
          rintro e w3 ⟨v, rfl, hown, hb3⟩
          obtain ⟨a2, c2, rfl, hE2⟩ := hown.elems HLEN.out
          have hb4 := hb2.trans (hb3.mono hb2.size)
          have C9 := Lib.hid (same_any a1 a2 _ c1 c2 xs w3 w3.heap.size ((hE1.below hb3).mono hb3.size) hE2)
          clear hown hE1 hE2 hb2 hb3
          go_wp2_with fail
          refine C9.out.mono ?_
          rintro e w4 ⟨rfl, hb5⟩
          have hb6 := hb4.trans (hb5.mono hb4.size)
          clear hb4 hb5
          go_wp2_with fail
          refine (CP.out _).mono ?_
          rintro e w5 ⟨rfl, hb7⟩
          have hb8 := hb6.trans (hb7.mono hb6.size)
          clear hb6 hb7
          go_wp2_with fail
          refine (CN.out _).mono ?_
          rintro e w6 ⟨rfl, rfl⟩
          go_wp2_with fail
          go_ret
          exact ⟨rfl, hb8⟩
      | true =>
        obtain ⟨l1, l2, l3⟩ := hlaw rfl rfl
        rw [l1] at C6
        rw [l2] at C7
        rw [l3] at C8
        clear hlaw l1 l2 l3
        by_cases h1 : b.size < a.size
        · have i0 := run_idx (P := Tryd.prog) (k := .i64) Tryd.underlying9 a (b.size : Int) b.size rfl h1
          rw [decide_eq_true h1, Bool.true_and] at hund
          obtain ⟨c, hc⟩ : ∃ c, c = (L a).getD b.size 0 := ⟨_, rfl⟩
          rw [← hc] at i0 hund
          clear hc
          cases e2 : (a.extract 0 b.size).toList == b.toList with
          | false =>
            have hu : u = false := by rw [hund, e2]; rfl
            subst hu
            clear hund
            go_enter Tryd.func4, Tryd.ntmps4
            go_wp2_with fail
            refine (anchor_any _).mono ?_
            rintro e w1 ⟨rfl, rfl⟩
            go_wp2_with fail
            refine (C1.out _).mono ?_
            rintro e w1 ⟨rfl, rfl⟩
            go_wp2_with fail
            refine (C2.out _).mono ?_
            rintro e w1 ⟨rfl, rfl⟩
            go_wp2_with fail
            refine (C3.out _).mono ?_
            rintro e w1 ⟨rfl, rfl⟩
            go_wp2_with fail
            refine (C4.out _).mono ?_
            rintro e w2 ⟨v, rfl, hown, hb2⟩
            obtain ⟨a1, c1, rfl, hE1⟩ := hown.elems HLEN.out
            clear hown
            go_wp2_with fail
            refine (C5.out _).mono ?_
            rintro e w3 ⟨v, rfl, hown, hb3⟩
            obtain ⟨a2, c2, rfl, hE2⟩ := hown.elems HLEN.out
            have hb4 := hb2.trans (hb3.mono hb2.size)
            have C9 := Lib.hid (same_any a1 a2 _ c1 c2 xs w3 w3.heap.size ((hE1.below hb3).mono hb3.size) hE2)
            clear hown hE1 hE2 hb2 hb3
            go_wp2_with fail
            refine C9.out.mono ?_
            rintro e w4 ⟨rfl, hb5⟩
            have hb6 := hb4.trans (hb5.mono hb4.size)
            clear hb4 hb5
            go_wp2_with fail
            refine (CP.out _).mono ?_
            rintro e w5 ⟨rfl, hb7⟩
            have hb8 := hb6.trans (hb7.mono hb6.size)
            clear hb6 hb7
            go_wp2_with fail
            refine (CN.out _).mono ?_
            rintro e w6 ⟨rfl, rfl⟩
            go_wp2_with fail
            refine (C6.out _).mono ?_
            rintro e w6 ⟨rfl, rfl⟩
            go_wp2_with fail
            refine (C7.out _).mono ?_
            rintro e w6 ⟨rfl, rfl⟩
            go_wp2_with fail
            refine (C8.out _).mono ?_
            rintro e w6 ⟨rfl, rfl⟩
            go_wp2_with fail
            go_ret
            exact ⟨ret_bool (by simp), hb8⟩
          | true =>
            rw [e2, Bool.true_and] at hund
            cases e3 : ((c.toNat : Nat) : Int) == 47 with
            | false =>
              have hu : u = false := by rw [hund, e3]
              subst hu
              clear hund
              go_enter Tryd.func4, Tryd.ntmps4
              go_wp2_with fail
              refine (anchor_any _).mono ?_
              rintro e w1 ⟨rfl, rfl⟩
              go_wp2_with fail
              refine (C1.out _).mono ?_
              rintro e w1 ⟨rfl, rfl⟩
              go_wp2_with fail
              refine (C2.out _).mono ?_
              rintro e w1 ⟨rfl, rfl⟩
              go_wp2_with fail
              refine (C3.out _).mono ?_
              rintro e w1 ⟨rfl, rfl⟩
              go_wp2_with fail
              refine (C4.out _).mono ?_
              rintro e w2 ⟨v, rfl, hown, hb2⟩
              obtain ⟨a1, c1, rfl, hE1⟩ := hown.elems HLEN.out
              clear hown
              go_wp2_with fail
              refine (C5.out _).mono ?_
              rintro e w3 ⟨v, rfl, hown, hb3⟩
              obtain ⟨a2, c2, rfl, hE2⟩ := hown.elems HLEN.out
              have hb4 := hb2.trans (hb3.mono hb2.size)
              have C9 := Lib.hid (same_any a1 a2 _ c1 c2 xs w3 w3.heap.size ((hE1.below hb3).mono hb3.size) hE2)
              clear hown hE1 hE2 hb2 hb3
              go_wp2_with fail
              refine C9.out.mono ?_
              rintro e w4 ⟨rfl, hb5⟩
              have hb6 := hb4.trans (hb5.mono hb4.size)
              clear hb4 hb5
              go_wp2_with fail
              refine (CP.out _).mono ?_
              rintro e w5 ⟨rfl, hb7⟩
              have hb8 := hb6.trans (hb7.mono hb6.size)
              clear hb6 hb7
              go_wp2_with fail
              refine (CN.out _).mono ?_
              rintro e w6 ⟨rfl, rfl⟩
              go_wp2_with fail
              refine (C6.out _).mono ?_
              rintro e w6 ⟨rfl, rfl⟩
              go_wp2_with fail
              refine (C7.out _).mono ?_
              rintro e w6 ⟨rfl, rfl⟩
              go_wp2_with fail
              refine (C8.out _).mono ?_
              rintro e w6 ⟨rfl, rfl⟩
              go_wp2_with fail
              go_ret
              exact ⟨ret_bool (by simp), hb8⟩
            | true =>
              have hu : u = true := by rw [hund, e3]
              subst hu
              clear hund
              go_enter Tryd.func4, Tryd.ntmps4
              go_wp2_with fail
              refine (anchor_any _).mono ?_
              rintro e w1 ⟨rfl, rfl⟩
              go_wp2_with fail
              refine (C1.out _).mono ?_
              rintro e w1 ⟨rfl, rfl⟩
              go_wp2_with fail
              refine (C2.out _).mono ?_
              rintro e w1 ⟨rfl, rfl⟩
              go_wp2_with fail
              refine (C3.out _).mono ?_
              rintro e w1 ⟨rfl, rfl⟩
              go_wp2_with fail
              refine (C4.out _).mono ?_
              rintro e w2 ⟨v, rfl, hown, hb2⟩
              obtain ⟨a1, c1, rfl, hE1⟩ := hown.elems HLEN.out
              clear hown
              go_wp2_with fail
              refine (C5.out _).mono ?_
              rintro e w3 ⟨v, rfl, hown, hb3⟩
              obtain ⟨a2, c2, rfl, hE2⟩ := hown.elems HLEN.out
              have hb4 := hb2.trans (hb3.mono hb2.size)
              have C9 := Lib.hid (same_any a1 a2 _ c1 c2 xs w3 w3.heap.size ((hE1.below hb3).mono hb3.size) hE2)
              clear hown hE1 hE2 hb2 hb3
              go_wp2_with fail
              refine C9.out.mono ?_
              rintro e w4 ⟨rfl, hb5⟩
              have hb6 := hb4.trans (hb5.mono hb4.size)
              clear hb4 hb5
              go_wp2_with fail
              refine (CP.out _).mono ?_
              rintro e w5 ⟨rfl, hb7⟩
              have hb8 := hb6.trans (hb7.mono hb6.size)
              clear hb6 hb7
              go_wp2_with fail
              refine (CN.out _).mono ?_
              rintro e w6 ⟨rfl, rfl⟩
              go_wp2_with fail
              refine (C6.out _).mono ?_
              rintro e w6 ⟨rfl, rfl⟩
              go_wp2_with fail
              refine (C7.out _).mono ?_
              rintro e w6 ⟨rfl, rfl⟩
              go_wp2_with fail
              refine (C8.out _).mono ?_
              rintro e w6 ⟨rfl, rfl⟩
              go_wp2_with fail
              go_ret
              exact ⟨ret_bool (by simp), hb8⟩
        · have hu : u = false := by rw [hund, decide_eq_false h1]; rfl
          subst hu
          clear hund
          go_enter Tryd.func4, Tryd.ntmps4
          go_wp2_with fail
          refine (anchor_any _).mono ?_
          rintro e w1 ⟨rfl, rfl⟩
          go_wp2_with fail
          refine (C1.out _).mono ?_
          rintro e w1 ⟨rfl, rfl⟩
          go_wp2_with fail
          refine (C2.out _).mono ?_
          rintro e w1 ⟨rfl, rfl⟩
          go_wp2_with fail
          refine (C3.out _).mono ?_
          rintro e w1 ⟨rfl, rfl⟩
          go_wp2_with fail
          refine (C4.out _).mono ?_
          rintro e w2 ⟨v, rfl, hown, hb2⟩
          obtain ⟨a1, c1, rfl, hE1⟩ := hown.elems HLEN.out
          clear hown
          go_wp2_with fail
          refine (C5.out _).mono ?_
          rintro e w3 ⟨v, rfl, hown, hb3⟩
          obtain ⟨a2, c2, rfl, hE2⟩ := hown.elems HLEN.out
          have hb4 := hb2.trans (hb3.mono hb2.size)
          have C9 := Lib.hid (same_any a1 a2 _ c1 c2 xs w3 w3.heap.size ((hE1.below hb3).mono hb3.size) hE2)
          clear hown hE1 hE2 hb2 hb3
          go_wp2_with fail
          refine C9.out.mono ?_
          rintro e w4 ⟨rfl, hb5⟩
          have hb6 := hb4.trans (hb5.mono hb4.size)
          clear hb4 hb5
          go_wp2_with fail
          refine (CP.out _).mono ?_
          rintro e w5 ⟨rfl, hb7⟩
          have hb8 := hb6.trans (hb7.mono hb6.size)
          clear hb6 hb7
          go_wp2_with fail
          refine (CN.out _).mono ?_
          rintro e w6 ⟨rfl, rfl⟩
          go_wp2_with fail
          refine (C6.out _).mono ?_
          rintro e w6 ⟨rfl, rfl⟩
          go_wp2_with fail
          refine (C7.out _).mono ?_
          rintro e w6 ⟨rfl, rfl⟩
          go_wp2_with fail
          refine (C8.out _).mono ?_
          rintro e w6 ⟨rfl, rfl⟩
          go_wp2_with fail
          go_ret
          exact ⟨ret_bool (by simp), hb8⟩
  · go_enter Tryd.func4, Tryd.ntmps4
    go_wp2_with fail
    refine (anchor_any _).mono ?_
    rintro e w1 ⟨rfl, rfl⟩
    go_wp2_with fail
    go_ret
    exact ⟨rfl, Below.refl _ _⟩
end Go.Proofs.YtoiknebhaggbgaaDoor
