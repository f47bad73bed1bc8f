/-
  The walks of the document's has, Right, Name, Pieces and Plain.
-/
import Derived.Test.YtdelgbkllnccoaaDoorP4
namespace Go.Proofs.YtdelgbkllnccoaaDoor
open Go.RowKit

/-- Whether a text is a path. -/
def rightB (l : List UInt8) : Bool := !l.isEmpty && decide (l.length ≤ 4095) && !l.contains 0
/-- Whether a byte occurs; a plain name, so that the walk does not rewrite it. -/
def hasB (l : List UInt8) (c : UInt8) : Bool := l.contains c
theorem hasB_nil (c : UInt8) : hasB [] c = false := rfl
theorem hasB_same (c : UInt8) (l : List UInt8) : hasB (c :: l) c = true := by simp [hasB]
theorem hasB_cons {c d : UInt8} (l : List UInt8) (h : d ≠ c) : hasB (d :: l) c = hasB l c := by
  simp [hasB, Ne.symm h]

set_option maxHeartbeats 400000 in
theorem has_any (s : ByteArray) (c : UInt8) (w : World) (hs : s.size ≤ maxLen) :
    Calls Tryd.prog 47 #[.string s, .int .u8 (c.toNat : Nat)] w fun e w' => e = .returned (.bool (hasB (L s) c)) ∧ w = w' := by
  unfold maxLen at hs
  go_enter Tryd.func47, Tryd.ntmps47
  go_wp2
  go_loop [5] (fun i => ∃ k : Nat, k ≤ s.size ∧ i = .int .i64 k ∧ hasB (L s) c = hasB ((L s).drop k) c) (fun i => s.size - (intOf i).toNat)
  case atStart => exact ⟨0, by omega, rfl, rfl⟩
  case round =>
    obtain ⟨k, hk, rfl, hr⟩ := hrel
    have HR := Lib.hid hr
    clear hr
    by_cases hlt : k < s.size
    · have i0 := run_idx (P := Tryd.prog) (k := .i64) Tryd.underlying9 s (k : Int) k rfl hlt
      obtain ⟨d, hd⟩ : ∃ d, d = (L s).getD k 0 := ⟨_, rfl⟩
      have hdr := drop_getD (L s) hlt
      rw [← hd] at i0 hdr
      have HDR := Lib.hid hdr
      clear hd hdr
      by_cases he : d = c
      · have ht : (((d.toNat : Nat) : Int) == ((c.toNat : Nat) : Int)) = true := by rw [he]; simp
        have HE := Lib.hid he
        clear he
        go_wp2
        go_ret
        exact ⟨ret_bool (by rw [HR.out, HDR.out, HE.out, hasB_same]), rfl⟩
      · have ht : (((d.toNat : Nat) : Int) == ((c.toNat : Nat) : Int)) = false := by
          rw [beq_eq_false_iff_ne]; intro h; exact he (UInt8.toNat_inj.1 (by omega))
        have HE := Lib.hid he
        clear he
        go_wp2
        go_round
        case rel => exact ⟨k + 1, by omega, by go_num, by
          rw [HR.out, HDR.out, hasB_cons _ HE.out]⟩
        case measure => simp [intOf]; omega
    · go_wp2
      go_ret
      have : k = s.size := by omega
      exact ⟨ret_bool (by rw [HR.out, this, List.drop_of_length_le (by rw [L_size]; exact Nat.le_refl _), hasB_nil]), rfl⟩

set_option maxHeartbeats 400000 in
theorem refRight_any (s : ByteArray) (w : World) (hs : s.size ≤ maxLen) :
    Calls Tryd.prog 36 #[.string s] w fun e w' => e = .returned (.bool (rightB (L s))) ∧ w = w' := by
  have HS := Lib.hid hs
  unfold maxLen at hs
  have hl : (L s).length = s.size := rfl
  by_cases h1 : 1 ≤ s.size
  · have he : (L s).isEmpty = false := by cases h : L s with
      | nil => rw [h] at hl; simp at hl; omega
      | cons a b => rfl
    by_cases h2 : s.size ≤ 4095
    · have hr : rightB (L s) = !(hasB (L s) 0) := by rw [rightB, he, hasB]; simp [hl, h2]
      have HR := Lib.hid hr
      clear hr he hl
      go_enter Tryd.func36, Tryd.ntmps36
      go_wp2_with fail
      refine (has_any s 0 _ HS.out).mono ?_
      rintro e w' ⟨rfl, rfl⟩
      go_wp2_with fail
      go_ret
      exact ⟨ret_bool (by rw [HR.out]), rfl⟩
    · have hr : rightB (L s) = false := by rw [rightB, he]; simp [hl]; intro h; omega
      have HR := Lib.hid hr
      clear hr he hl
      go_enter Tryd.func36, Tryd.ntmps36
      go_wp2_with fail
      go_ret
      exact ⟨ret_bool (by rw [HR.out]), rfl⟩
  · have hr : rightB (L s) = false := by
      have : L s = [] := List.length_eq_zero_iff.1 (by omega)
      rw [this]; rfl
    have HR := Lib.hid hr
    clear hr hl
    go_enter Tryd.func36, Tryd.ntmps36
    go_wp2_with fail
    go_ret
    exact ⟨ret_bool (by rw [HR.out]), rfl⟩


/-- Whether a text is a name. -/
def nameB (l : List UInt8) : Bool := decide (1 ≤ l.length) && decide (l.length ≤ 255) && !hasB l 47 && !hasB l 0 && !(l == [46]) && !(l == [46, 46])

theorem refName_any (s : ByteArray) (w : World) (hs : s.size ≤ 100000) :
    Calls Tryd.prog 46 #[.string s] w fun e w' => e = .returned (.bool (nameB (L s))) ∧ w = w' := by
  obtain ⟨r, hr⟩ : ∃ r, r = nameB (L s) := ⟨_, rfl⟩
  rw [← hr]
  by_cases hsz : 1 ≤ s.size ∧ s.size ≤ 255
  · have C1 := Lib.hid (fun w => has_any s 47 w (by unfold maxLen; omega))
    have C2 := Lib.hid (fun w => has_any s 0 w (by unfold maxLen; omega))
    have hr' : r = (!hasB (L s) 47 && !hasB (L s) 0 && !(s.toList == [46]) && !(s.toList == [46, 46])) := by
      rw [hr, nameB, L_size, decide_eq_true hsz.1, decide_eq_true hsz.2, toList_L]; simp
    obtain ⟨b1, hb1⟩ : ∃ b, b = hasB (L s) 47 := ⟨_, rfl⟩
    obtain ⟨b2, hb2⟩ : ∃ b, b = hasB (L s) 0 := ⟨_, rfl⟩
    rw [← hb1] at C1 hr'
    rw [← hb2] at C2 hr'
    obtain ⟨z1, z2⟩ := hsz
    clear hr hb1 hb2
    cases b1
    · cases b2
      · cases d1 : s.toList == [46]
        · cases d2 : s.toList == [46, 46]
          · skip
            have hr2 : r = true := by rw [hr', d1, d2]; rfl
            subst hr2
            clear hr'
            go_enter Tryd.func46, Tryd.ntmps46
            go_wp2_with fail
            refine (C1.out _).mono ?_
            rintro e w1 ⟨rfl, rfl⟩
            go_wp2_with fail
            refine (C2.out _).mono ?_
            rintro e w1 ⟨rfl, rfl⟩
            go_wp2_with fail
            go_ret
            exact ⟨rfl, rfl⟩
          · have hr2 : r = false := by rw [hr', d1, d2]; rfl
            subst hr2
            clear hr'
            go_enter Tryd.func46, Tryd.ntmps46
            go_wp2_with fail
            refine (C1.out _).mono ?_
            rintro e w1 ⟨rfl, rfl⟩
            go_wp2_with fail
            refine (C2.out _).mono ?_
            rintro e w1 ⟨rfl, rfl⟩
            go_wp2_with fail
            go_ret
            exact ⟨rfl, rfl⟩
        · have hr2 : r = false := by rw [hr', d1]; rfl
          subst hr2
          clear hr'
          go_enter Tryd.func46, Tryd.ntmps46
          go_wp2_with fail
          refine (C1.out _).mono ?_
          rintro e w1 ⟨rfl, rfl⟩
          go_wp2_with fail
          refine (C2.out _).mono ?_
          rintro e w1 ⟨rfl, rfl⟩
          go_wp2_with fail
          go_ret
          exact ⟨rfl, rfl⟩
      · have hr2 : r = false := by rw [hr']; rfl
        subst hr2
        clear hr'
        go_enter Tryd.func46, Tryd.ntmps46
        go_wp2_with fail
        refine (C1.out _).mono ?_
        rintro e w1 ⟨rfl, rfl⟩
        go_wp2_with fail
        refine (C2.out _).mono ?_
        rintro e w1 ⟨rfl, rfl⟩
        go_wp2_with fail
        go_ret
        exact ⟨rfl, rfl⟩
    · have hr2 : r = false := by rw [hr']; rfl
      subst hr2
      clear hr'
      go_enter Tryd.func46, Tryd.ntmps46
      go_wp2_with fail
      refine (C1.out _).mono ?_
      rintro e w1 ⟨rfl, rfl⟩
      go_wp2_with fail
      go_ret
      exact ⟨rfl, rfl⟩
  · have hr2 : r = false := by
      rw [hr, nameB, L_size]
      by_cases h1 : 1 ≤ s.size
      · rw [decide_eq_false (show ¬ s.size ≤ 255 by omega)]; simp
      · rw [decide_eq_false h1]; rfl
    subst hr2
    clear hr
    by_cases h1 : 1 ≤ s.size
    · have h2 : 255 < s.size := by omega
      clear hsz
      go_enter Tryd.func46, Tryd.ntmps46
      go_wp2_with fail
      go_ret
      exact ⟨rfl, rfl⟩
    · clear hsz
      go_enter Tryd.func46, Tryd.ntmps46
      go_wp2_with fail
      go_ret
      exact ⟨rfl, rfl⟩

/-- The pieces among the first n bytes, and where the next one begins. -/
def piecesTo (s : ByteArray) : Nat → List ByteArray × Nat
  | 0 => ([], 0)
  | n + 1 => if (L s).getD n 0 = 47 then ((piecesTo s n).1 ++ [s.extract (piecesTo s n).2 n], n + 1) else piecesTo s n
def piecesS (s : ByteArray) : List ByteArray := (piecesTo s s.size).1 ++ [s.extract (piecesTo s s.size).2 s.size]
theorem piecesTo_yes {s : ByteArray} {n : Nat} (h : (L s).getD n 0 = 47) : piecesTo s (n + 1) = ((piecesTo s n).1 ++ [s.extract (piecesTo s n).2 n], n + 1) := by rw [piecesTo, if_pos h]
theorem piecesTo_no {s : ByteArray} {n : Nat} (h : (L s).getD n 0 ≠ 47) : piecesTo s (n + 1) = piecesTo s n := by rw [piecesTo, if_neg h]
theorem piecesTo_spec (s : ByteArray) : ∀ n, (piecesTo s n).2 ≤ n ∧ (piecesTo s n).1.length ≤ n ∧ ((0 < n ∧ (L s).getD (n - 1) 0 = 47) → (piecesTo s n).2 = n)
  | 0 => ⟨Nat.le_refl _, Nat.le_refl _, fun h => by omega⟩
  | n + 1 => by
    obtain ⟨h1, h2, h3⟩ := piecesTo_spec s n
    by_cases h : (L s).getD n 0 = 47
    · rw [piecesTo_yes h]
      exact ⟨Nat.le_refl _, by simp; omega, fun _ => rfl⟩
    · rw [piecesTo_no h]
      exact ⟨by omega, by omega, fun h' => absurd h'.2 h⟩
theorem extract_len (s : ByteArray) (a b : Nat) : (s.extract a b).size ≤ s.size := by rw [S_extract, S_size, List.length_take, List.length_drop, L_size]; omega
theorem piecesTo_size (s : ByteArray) : ∀ n, ∀ x ∈ (piecesTo s n).1, x.size ≤ s.size
  | 0, x, h => by simp [piecesTo] at h
  | n + 1, x, h => by
    by_cases hc : (L s).getD n 0 = 47
    · rw [piecesTo_yes hc] at h
      rcases List.mem_append.1 h with h | h
      · exact piecesTo_size s n x h
      · rw [List.mem_singleton.1 h]; exact extract_len s _ _
    · rw [piecesTo_no hc] at h; exact piecesTo_size s n x h
theorem piecesS_size (s : ByteArray) (x : ByteArray) (h : x ∈ piecesS s) : x.size ≤ s.size := by
  rcases List.mem_append.1 h with h | h
  · exact piecesTo_size s _ x h
  · rw [List.mem_singleton.1 h]; exact extract_len s _ _

set_option maxHeartbeats 800000 in
theorem refPieces_any (s : ByteArray) (w : World) (hs : s.size ≤ 100000) :
    Calls Tryd.prog 45 #[.string s] w fun e w' => ∃ v, e = .returned v ∧ OwnS w' w.heap.size v (piecesS s) ∧ Below w.heap.size w w' := by
  go_enter Tryd.func45, Tryd.ntmps45
  go_wp2_with fail
  go_loopw [3, 4, 5] (fun v f i wr => ∃ (k m : Nat), k ≤ s.size ∧ i = .int .i64 k ∧ f = .int .i64 m ∧ m = (piecesTo s k).2 ∧ OwnS wr w.heap.size v (piecesTo s k).1 ∧ Below w.heap.size w wr) (fun _ _ i _ => s.size - (intOf i).toNat)
  case atStart => exact ⟨0, 0, Nat.zero_le _, rfl, rfl, rfl, OwnS.nil _ _, Below.refl _ _⟩
  case round =>
    obtain ⟨k, m, hk, rfl, rfl, hm, hown, hbw⟩ := hrel
    have hbs := hbw.size
    obtain ⟨hm1, hlen, _⟩ := piecesTo_spec s k
    rw [← hm] at hm1
    by_cases hlt : k < s.size
    · have i0 := run_idx (P := Tryd.prog) (k := .i64) Tryd.underlying9 s (k : Int) k rfl hlt
      obtain ⟨c, hc⟩ : ∃ c, c = (L s).getD k 0 := ⟨_, rfl⟩
      rw [← hc] at i0
      by_cases h47 : c = 47
      · have et := eq47 h47
        have hl := piecesTo_yes (hc ▸ h47)
        rw [← hm] at hl
        have HL := Lib.hid hl
        have HM := Lib.hid hm
        clear hc h47 hl hm
        go_wp2_with (at_builtin; go_must (refine append_string rfl _ _ rfl rfl (OwnS.alloc hown _) (s.extract m k) rfl (cell_newS _ _ _) (by omega) (Below.alloc hbw hbs _) (by simp; omega) ?_); intro v' w' hown' hbw' hbs')
        go_roundw
        case rel => exact ⟨k + 1, k + 1, by omega, by go_num, by go_num, by rw [HL.out], by rw [HL.out]; exact hown', hbw'⟩
        case measure => simp [intOf]; omega
      · have et := ne47 h47
        have hl := piecesTo_no (hc ▸ h47)
        have HL := Lib.hid hl
        have HM := Lib.hid hm
        clear hc h47 hl hm
        go_wp2_with fail
        go_roundw
        case rel => exact ⟨k + 1, m, by omega, by go_num, rfl, by rw [HL.out]; exact HM.out, by rw [HL.out]; exact hown, hbw⟩
        case measure => simp [intOf]; omega
    · obtain rfl : k = s.size := by omega
      have hp : piecesS s = (piecesTo s s.size).1 ++ [s.extract m s.size] := by rw [piecesS, ← hm]
      have HP := Lib.hid hp
      have HM := Lib.hid hm
      clear hp hm
      go_wp2_with (at_builtin; go_must (refine append_string rfl _ _ rfl rfl (OwnS.alloc hown _) (s.extract m s.size) rfl (cell_newS _ _ _) (by omega) (Below.alloc hbw hbs _) (by simp; omega) ?_); intro v' w' hown' hbw' hbs')
      go_ret
      exact ⟨_, rfl, by rw [HP.out]; exact hown', hbw'⟩

/-- Whether a path is plain. -/
def plainB (s : ByteArray) : Bool := (piecesS s).all (fun x => nameB (L x)) && rightB (L s)
def namesTo (xs : List ByteArray) (k : Nat) : Prop := ∀ i x, i < k → xs[i]? = some x → nameB (L x) = true

set_option maxHeartbeats 800000 in
theorem refPlain_any (s : ByteArray) (w : World) (hs : s.size ≤ 100000) :
    Calls Tryd.prog 35 #[.string s] w fun e w' => e = .returned (.bool (plainB s)) ∧ Below w.heap.size w w' := by
  obtain ⟨xs, hxs⟩ : ∃ xs, xs = piecesS s := ⟨_, rfl⟩
  have hlen : xs.length ≤ 100001 := by
    rw [hxs, piecesS, List.length_append]
    have := (piecesTo_spec s s.size).2.1
    simp; omega
  have hsz : ∀ x ∈ xs, x.size ≤ 100000 := fun x hx => Nat.le_trans (piecesS_size s x (hxs ▸ hx)) hs
  have hp : plainB s = (xs.all (fun x => nameB (L x)) && rightB (L s)) := by rw [plainB, hxs]
  have HS := Lib.hid hs
  have HP := Lib.hid hp
  have HSZ := Lib.hid hsz
  have C1 : Hid (∀ w, Calls Tryd.prog 45 #[.string s] w fun e w' => ∃ v, e = .returned v ∧ OwnS w' w.heap.size v xs ∧ Below w.heap.size w w') := Lib.hid fun w => by rw [hxs]; exact refPieces_any s w hs
  clear hp hsz hxs
  go_enter Tryd.func35, Tryd.ntmps35
  go_wp2_with fail
  refine (C1.out _).mono ?_
  rintro e w1 ⟨v, rfl, hown, hb1⟩
  obtain ⟨a, cap, rfl, hE⟩ := hown.elems (by unfold maxLen; omega)
  clear hown
  obtain ⟨b1, o1, r1, _, c1⟩ := hE.open 40 9 Tryd.underlying40 (by kernel_rfl)
  have R1 := Lib.hid r1
  have CC1 := Lib.hid c1
  clear hE r1 c1
  go_wp2_with fail
  go_loopw [4] (fun i wr => ∃ (k : Nat), k ≤ xs.length ∧ i = .int .i64 k ∧ wr = w1 ∧ namesTo xs k) (fun i _ => xs.length - (intOf i).toNat)
  case atStart => exact ⟨0, Nat.zero_le _, rfl, rfl, fun i x h => by omega⟩
  case round =>
    obtain ⟨k, hk, rfl, rfl, hnames⟩ := hrel
    have HN := Lib.hid hnames
    clear hnames
    by_cases hlt : k < xs.length
    · have j1 := fun w' => R1.out k cap w' hlt
      obtain ⟨x, hx⟩ : ∃ x, xs[k]? = some x := ⟨_, List.getElem?_eq_getElem hlt⟩
      have d1 : wr.cell? ⟨b1, o1 + k, none⟩ = some (.string x) := by rw [CC1.out k hlt, List.getElem?_map, hx]; rfl
      have hxm : x ∈ xs := List.mem_of_getElem? hx
      have C2 := Lib.hid (fun w => refName_any x w (HSZ.out x hxm))
      cases hnb : nameB (L x) with
      | true =>
        rw [hnb] at C2
        have hn2 : namesTo xs (k + 1) := fun i y hi hy => by
          by_cases hik : i < k
          · exact HN.out i y hik hy
          · obtain rfl : i = k := by omega
            rw [hx] at hy; cases hy; exact hnb
        have HN2 := Lib.hid hn2
        clear hn2 hx hxm hnb
        go_wp2_with fail
        refine (C2.out _).mono ?_
        rintro e w2 ⟨rfl, rfl⟩
        go_wp2_with fail
        go_roundw
        case rel => exact ⟨k + 1, by omega, by go_num, by first | trivial | rfl, HN2.out⟩
        case measure => simp [intOf]; omega
      | false =>
        rw [hnb] at C2
        have hp2 : plainB s = false := by
          rw [HP.out, show (xs.all fun x => nameB (L x)) = false from List.all_eq_false.2 ⟨x, hxm, by rw [hnb]; decide⟩]; rfl
        have HP2 := Lib.hid hp2
        clear hp2 hx hxm hnb
        go_wp2_with fail
        refine (C2.out _).mono ?_
        rintro e w2 ⟨rfl, rfl⟩
        go_wp2_with fail
        go_ret
        exact ⟨ret_bool HP2.out.symm, hb1⟩
    · obtain rfl : k = xs.length := by omega
      have hp2 : plainB s = rightB (L s) := by
        rw [HP.out, show (xs.all fun x => nameB (L x)) = true from List.all_eq_true.2 fun x hx => by
          obtain ⟨i, hi, e⟩ := List.getElem_of_mem hx
          exact HN.out i x hi (by rw [List.getElem?_eq_getElem hi, e])]; rfl
      have HP2 := Lib.hid hp2
      clear hp2
      go_wp2_with fail
      refine (refRight_any s _ (by unfold maxLen; have := HS.out; omega)).mono ?_
      rintro e w2 ⟨rfl, rfl⟩
      go_wp2_with fail
      go_ret
      exact ⟨ret_bool HP2.out.symm, hb1⟩
end Go.Proofs.YtdelgbkllnccoaaDoor
