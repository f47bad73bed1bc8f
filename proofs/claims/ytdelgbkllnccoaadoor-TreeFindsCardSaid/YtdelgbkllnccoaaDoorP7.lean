/-
  The walks of Name, Right, Plain, Absolute and Parts, of the document's Parts, and of the statement PathKinds.
-/
import Derived.Test.YtdelgbkllnccoaaDoorP6
import Derived.Test.YtdelgbkllnccoaaDoorSplit
namespace Go.Proofs.YtdelgbkllnccoaaDoor
open Go.RowKit

theorem indexByte_any (s : ByteArray) (c : Int) (b : Bool) (w : World) (hb : (L s).contains c.toNat.toUInt8 = b) :
    Calls Tryd.prog 29 #[.string s, .int .u8 c] w fun e w' => (∃ n : Int, e = .returned (.int .i64 n) ∧ decide (0 ≤ n) = b) ∧ w = w' :=
  (Tryd.strings_IndexByte s c w).mono fun e w' ⟨h1, h2⟩ => ⟨⟨_, h1, by rw [← hb, Lib.contains_iff_indexByte]; rfl⟩, h2.symm⟩

theorem right_any (s : ByteArray) (w : World) (hs : s.size ≤ maxLen) :
    Calls Tryd.prog 50 #[.string s] w fun e w' => e = .returned (.bool (rightB (L s))) ∧ w = w' := by
  unfold maxLen at hs
  by_cases h0 : (L s).isEmpty = true
  · have e0 : s.toList.isEmpty = true := by rw [isEmpty_L]; exact h0
    have H0 := Lib.hid h0
    clear h0
    go_enter Tryd.func50, Tryd.ntmps50
    go_wp2_with fail
    go_ret
    exact ⟨ret_bool (by rw [rightB, H0.out]; rfl), rfl⟩
  · have h0' : (L s).isEmpty = false := by simpa using h0
    have e0 : s.toList.isEmpty = false := by rw [isEmpty_L]; exact h0'
    have H0 := Lib.hid h0'
    clear h0 h0'
    by_cases h1 : s.size ≤ 4095
    · have H1 := Lib.hid h1
      go_enter Tryd.func50, Tryd.ntmps50
      go_wp2_with fail
      refine (indexByte_any s 0 _ _ rfl).mono ?_
      rintro e w' ⟨⟨n, rfl, hn⟩, rfl⟩
      have HN := Lib.hid hn
      clear hn
      go_wp2_with fail
      go_ret
      refine ⟨ret_bool ?_, rfl⟩
      have h2 : (L s).length ≤ 4095 := H1.out
      have h4 : decide (n < 0) = !decide (0 ≤ n) := by rw [Bool.eq_iff_iff]; simp
      have h3 := HN.out
      rw [show ((0 : Int).toNat.toUInt8) = (0 : UInt8) from rfl] at h3
      rw [rightB, H0.out, ← h3]
      simp [h2, h4]
    · go_enter Tryd.func50, Tryd.ntmps50
      have H1 := Lib.hid h1
      go_wp2_with fail
      go_ret
      refine ⟨ret_bool ?_, rfl⟩
      have h2 : ¬ (L s).length ≤ 4095 := H1.out
      rw [rightB, H0.out]
      simp [h2]


theorem name_any (s : ByteArray) (w : World) (hs : s.size ≤ 100000) :
    Calls Tryd.prog 52 #[.string s] w fun e w' => e = .returned (.bool (nameB (L s))) ∧ w = w' := by
  obtain ⟨r, hr⟩ : ∃ r, r = nameB (L s) := ⟨_, rfl⟩
  rw [← hr]
  have hr1 : r = (!s.toList.isEmpty && decide (s.size ≤ 255) && !(s.toList == [46]) && !(s.toList == [46, 46]) && !hasB (L s) 47 && !hasB (L s) 0) := by
    have e1 : decide (1 ≤ (L s).length) = !s.toList.isEmpty := by
      rw [isEmpty_L]
      cases L s with
      | nil => rfl
      | cons a l => simp
    rw [hr, nameB, e1, L_size, toList_L]
    cases (L s).isEmpty <;> cases decide (s.size ≤ 255) <;> cases hasB (L s) 47 <;> cases hasB (L s) 0 <;> cases (L s == [46]) <;> cases (L s == [46, 46]) <;> rfl
  clear hr
  obtain ⟨b1, hb1⟩ : ∃ b, b = hasB (L s) 47 := ⟨_, rfl⟩
  obtain ⟨b2, hb2⟩ : ∃ b, b = hasB (L s) 0 := ⟨_, rfl⟩
  have C1 := Lib.hid (fun w => indexByte_any s 47 b1 w (by rw [hb1]; rfl))
  have C2 := Lib.hid (fun w => indexByte_any s 0 b2 w (by rw [hb2]; rfl))
  rw [← hb1, ← hb2] at hr1
  clear hb1 hb2
  cases e0 : s.toList.isEmpty with
  | true =>
    have hr2 : r = false := by rw [hr1, e0]; rfl
    subst hr2
    clear hr1
    go_enter Tryd.func52, Tryd.ntmps52
    go_wp2_with fail
    go_ret
    exact ⟨rfl, rfl⟩
  | false =>
    rw [e0] at hr1
    by_cases h1 : s.size ≤ 255
    · rw [decide_eq_true h1] at hr1
      cases e1 : s.toList == [46] with
      | true =>
        have hr2 : r = false := by rw [hr1, e1]; rfl
        subst hr2
        clear hr1
        go_enter Tryd.func52, Tryd.ntmps52
        go_wp2_with fail
        go_ret
        exact ⟨rfl, rfl⟩
      | false =>
        rw [e1] at hr1
        cases e2 : s.toList == [46, 46] with
        | true =>
          have hr2 : r = false := by rw [hr1, e2]; rfl
          subst hr2
          clear hr1
          go_enter Tryd.func52, Tryd.ntmps52
          go_wp2_with fail
          go_ret
          exact ⟨rfl, rfl⟩
        | false =>
          rw [e2] at hr1
          cases b1 with
          | true =>
            have hr2 : r = false := by rw [hr1]; rfl
            subst hr2
            clear hr1
            go_enter Tryd.func52, Tryd.ntmps52
            go_wp2_with fail
            refine (C1.out _).mono ?_
            rintro e w1 ⟨⟨n, rfl, hn⟩, rfl⟩
            replace hn := of_decide_eq_true hn
            go_wp2_with fail
            go_ret
            exact ⟨rfl, rfl⟩
          | false =>
            cases b2 with
            | true =>
              have hr2 : r = false := by rw [hr1]; rfl
              subst hr2
              clear hr1
              go_enter Tryd.func52, Tryd.ntmps52
              go_wp2_with fail
              refine (C1.out _).mono ?_
              rintro e w1 ⟨⟨n, rfl, hn⟩, rfl⟩
              replace hn := of_decide_eq_false hn
              go_wp2_with fail
              refine (C2.out _).mono ?_
              rintro e w1 ⟨⟨m, rfl, hn⟩, rfl⟩
              replace hn := of_decide_eq_true hn
              go_wp2_with fail
              go_ret
              exact ⟨ret_bool (by simp; try omega), rfl⟩
            | false =>
              have hr2 : r = true := by rw [hr1]; rfl
              subst hr2
              clear hr1
              go_enter Tryd.func52, Tryd.ntmps52
              go_wp2_with fail
              refine (C1.out _).mono ?_
              rintro e w1 ⟨⟨n, rfl, hn⟩, rfl⟩
              replace hn := of_decide_eq_false hn
              go_wp2_with fail
              refine (C2.out _).mono ?_
              rintro e w1 ⟨⟨m, rfl, hn⟩, rfl⟩
              replace hn := of_decide_eq_false hn
              go_wp2_with fail
              go_ret
              exact ⟨ret_bool (by simp; try omega), rfl⟩
    · have hr2 : r = false := by rw [hr1, decide_eq_false h1]; rfl
      subst hr2
      clear hr1
      go_enter Tryd.func52, Tryd.ntmps52
      go_wp2_with fail
      go_ret
      exact ⟨rfl, rfl⟩

/-! ### the pieces, by the cut -/
theorem pieces_inv (s : ByteArray) : ∀ k, k ≤ s.size → (piecesTo s k).2 ≤ k ∧ (47 : UInt8) ∉ ((L s).drop (piecesTo s k).2).take (k - (piecesTo s k).2) ∧ (piecesTo s k).1.map L ++ sp 47 ((L s).drop (piecesTo s k).2) = sp 47 (L s)
  | 0, _ => ⟨Nat.le_refl _, by simp, by simp [piecesTo]⟩
  | k + 1, h => by
    obtain ⟨h1, h2, h3⟩ := pieces_inv s k (by omega)
    have hk : k < (L s).length := h
    have el : (L s).drop (piecesTo s k).2 = ((L s).drop (piecesTo s k).2).take (k - (piecesTo s k).2) ++ (L s).getD k 0 :: (L s).drop (k + 1) := by
      rw [← drop_getD (L s) hk]
      conv => lhs; rw [← List.take_append_drop (k - (piecesTo s k).2) ((L s).drop (piecesTo s k).2)]
      rw [List.drop_drop, show (piecesTo s k).2 + (k - (piecesTo s k).2) = k by omega]
    by_cases hc : (L s).getD k 0 = 47
    · rw [piecesTo_yes hc]
      refine ⟨Nat.le_refl _, by simp, ?_⟩
      rw [hc] at el
      rw [el, sp_app _ h2] at h3
      rw [List.map_append, List.append_assoc, ← h3, List.map_singleton, L_extract]
      rfl
    · rw [piecesTo_no hc]
      refine ⟨by omega, ?_, h3⟩
      rw [show k + 1 - (piecesTo s k).2 = (k - (piecesTo s k).2) + 1 by omega, List.take_add_one]
      intro hm
      rcases List.mem_append.1 hm with hm | hm
      · exact h2 hm
      · rw [List.getElem?_drop, show (piecesTo s k).2 + (k - (piecesTo s k).2) = k by omega, List.getElem?_eq_getElem hk] at hm
        simp at hm
        apply hc
        simp [List.getD, List.getElem?_eq_getElem hk, hm]

theorem piecesS_sp (s : ByteArray) : piecesS s = (sp 47 (L s)).map S := by
  obtain ⟨h1, h2, h3⟩ := pieces_inv s s.size (Nat.le_refl _)
  have e : (L s).drop (piecesTo s s.size).2 = ((L s).drop (piecesTo s s.size).2).take (s.size - (piecesTo s s.size).2) := by
    rw [List.take_of_length_le (by rw [List.length_drop, L_size]; omega)]
  rw [← e] at h2
  rw [sp_no h2] at h3
  have h4 := congrArg (List.map S) h3
  rw [← h4, List.map_append, List.map_map, show (S ∘ L) = id from funext fun x => S_L x, List.map_id, piecesS, List.map_singleton, S_extract_from]

set_option maxHeartbeats 800000 in
theorem plain_any (s : ByteArray) (w : World) (hs : s.size ≤ 100000) (hv : Held w) :
    Calls Tryd.prog 40 #[.string s] w fun e w' => e = .returned (.bool (plainB s)) ∧ Below w.heap.size w w' := by
  have hp0 : plainB s = (((sp 47 (L s)).map S).all (fun x => nameB (L x)) && rightB (L s)) := by rw [plainB, piecesS_sp]
  have C0 := Lib.hid (fun w => right_any s w (by unfold maxLen; omega))
  have C1 := Lib.hid (split_any s 47 w hs hv)
  have hsz : ∀ x ∈ (sp 47 (L s)).map S, x.size ≤ 100000 := fun x hx => Nat.le_trans (piecesS_size s x (by rw [piecesS_sp]; exact hx)) hs
  have HSZ := Lib.hid hsz
  cases hr : rightB (L s) with
  | false =>
    rw [hr] at C0
    rw [hr, Bool.and_false] at hp0
    have HP := Lib.hid hp0
    clear hr hp0 hsz
    go_enter Tryd.func40, Tryd.ntmps40
    go_wp2_with fail
    refine (C0.out _).mono ?_
    rintro e w1 ⟨rfl, rfl⟩
    go_wp2_with fail
    go_ret
    exact ⟨ret_bool HP.out.symm, Below.refl _ _⟩
  | true =>
    rw [hr] at C0
    rw [hr, Bool.and_true] at hp0
    have HP := Lib.hid hp0
    clear hr hp0 hsz
    go_enter Tryd.func40, Tryd.ntmps40
    go_wp2_with fail
    refine (C0.out _).mono ?_
    rintro e w1 ⟨rfl, rfl⟩
    go_wp2_with fail
    refine C1.out.mono ?_
    rintro e w1 ⟨a, cap, xs, rfl, hxs, hE, hxl, hb1⟩
    rw [← hxs] at HP HSZ
    obtain ⟨b1, o1, r1, _, c1⟩ := hE.open 40 9 Tryd.underlying40 (by kernel_rfl)
    have R1 := Lib.hid r1
    have CC1 := Lib.hid c1
    clear hE r1 c1 hxs
    go_wp2_with fail
    go_loopw [11] (fun i wr => ∃ (k : Nat), k ≤ xs.length ∧ i = .int .i64 k ∧ wr = w1 ∧ namesTo xs k) (fun i _ => xs.length - (intOf i).toNat)
    case atStart => exact ⟨0, Nat.zero_le _, rfl, rfl, fun i x h => by omega⟩
    case round =>
      obtain ⟨k, hk, rfl, rfl, hnames⟩ := hrel
      have HN := Lib.hid hnames
      clear hnames
      by_cases hlt : k < xs.length
      · have j1 := fun w' => R1.out k cap w' hlt
        obtain ⟨x, hx⟩ : ∃ x, xs[k]? = some x := ⟨_, List.getElem?_eq_getElem hlt⟩
        have d1 : wr.cell? ⟨b1, o1 + k, none⟩ = some (.string x) := by rw [CC1.out k hlt, List.getElem?_map, hx]; rfl
        have hxm : x ∈ xs := List.mem_of_getElem? hx
        have C2 := Lib.hid (fun w => name_any x w (HSZ.out x hxm))
        cases hnb : nameB (L x) with
        | true =>
          rw [hnb] at C2
          have hn2 : namesTo xs (k + 1) := fun i y hi hy => by
            by_cases hik : i < k
            · exact HN.out i y hik hy
            · obtain rfl : i = k := by omega
              rw [hx] at hy; cases hy; exact hnb
          have HN2 := Lib.hid hn2
          clear hn2 hx hxm hnb
          go_wp2_with fail
          refine (C2.out _).mono ?_
          rintro e w2 ⟨rfl, rfl⟩
          go_wp2_with fail
          go_roundw
          case rel => exact ⟨k + 1, by omega, by go_num, by first | trivial | rfl, HN2.out⟩
          case measure => simp [intOf]; omega
        | false =>
          rw [hnb] at C2
          have hp2 : plainB s = false := by rw [HP.out]; exact List.all_eq_false.2 ⟨x, hxm, by rw [hnb]; decide⟩
          have HP2 := Lib.hid hp2
          clear hp2 hx hxm hnb
          go_wp2_with fail
          refine (C2.out _).mono ?_
          rintro e w2 ⟨rfl, rfl⟩
          go_wp2_with fail
          go_ret
          exact ⟨ret_bool HP2.out.symm, hb1⟩
      · obtain rfl : k = xs.length := by omega
        have hp2 : plainB s = true := by
          rw [HP.out]
          exact List.all_eq_true.2 fun x hx => by
            obtain ⟨i, hi, e⟩ := List.getElem_of_mem hx
            exact HN.out i x hi (by rw [List.getElem?_eq_getElem hi, e])
        have HP2 := Lib.hid hp2
        clear hp2
        go_wp2_with fail
        go_ret
        exact ⟨ret_bool HP2.out.symm, hb1⟩

def someS (x : ByteArray) : Bool := !x.toList.isEmpty
/-- The pieces that are not empty, among the first k. -/
def partsTo (xs : List ByteArray) (k : Nat) : List ByteArray := (xs.take k).filter someS
theorem partsTo_len (xs : List ByteArray) (k : Nat) : (partsTo xs k).length ≤ k := Nat.le_trans (List.length_filter_le _ _) (by rw [List.length_take]; omega)
theorem partsTo_succ {xs : List ByteArray} {k : Nat} {x : ByteArray} (h : xs[k]? = some x) : partsTo xs (k + 1) = partsTo xs k ++ (if someS x then [x] else []) := by
  rw [partsTo, partsTo, List.take_add_one, h, List.filter_append]
  cases hx : someS x <;> simp [hx]
def partsS (s : ByteArray) : List ByteArray := partsTo (piecesS s) (piecesS s).length

end Go.Proofs.YtdelgbkllnccoaaDoor
