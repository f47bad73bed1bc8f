/-
  ModeTwice: the plain law and the walk.
-/
import Derived.Test.YtbfplannbhafeaaDoorM6
namespace Go.Proofs.YtbfplannbhafeaaDoor
open Go.RowKit

theorem doSign_twice (sign : UInt8) (m s g : Nat) : doSign sign (doSign sign m s g) s g = doSign sign m s g := by
  unfold doSign
  split
  · apply Nat.eq_of_testBit_eq
    intro i
    simp only [Nat.testBit_or]
    cases m.testBit i <;> cases s.testBit i <;> rfl
  · split
    · apply Nat.eq_of_testBit_eq
      intro i
      simp only [andN_bit]
      cases m.testBit i <;> cases s.testBit i <;> rfl
    · apply Nat.eq_of_testBit_eq
      intro i
      simp only [andN_bit, Nat.testBit_or]
      cases m.testBit i <;> cases s.testBit i <;> cases g.testBit i <;> rfl
theorem add_gone (m s : Nat) : andN (m ||| s) s = andN m s := by
  apply Nat.eq_of_testBit_eq
  intro i
  simp only [andN_bit, Nat.testBit_or]
  cases m.testBit i <;> cases s.testBit i <;> rfl

theorem while_all {p : UInt8 → Bool} {a : List UInt8} {c : UInt8} {b : List UInt8} (ha : ∀ x ∈ a, p x = true) (hc : p c = false) : (a ++ c :: b).takeWhile p = a ∧ (a ++ c :: b).dropWhile p = c :: b := by
  induction a with
  | nil => rw [List.nil_append, List.takeWhile_cons, List.dropWhile_cons, hc]; exact ⟨rfl, rfl⟩
  | cons x a ih =>
    obtain ⟨i1, i2⟩ := ih (fun y hy => ha y (by simp [hy]))
    rw [List.cons_append, List.takeWhile_cons, List.dropWhile_cons, ha x (by simp), if_pos rfl, i1]
    exact ⟨rfl, i2⟩
theorem while_end {p : UInt8 → Bool} {a : List UInt8} (ha : ∀ x ∈ a, p x = true) : a.takeWhile p = a ∧ a.dropWhile p = [] := by
  induction a with
  | nil => exact ⟨rfl, rfl⟩
  | cons x a ih =>
    obtain ⟨i1, i2⟩ := ih (fun y hy => ha y (by simp [hy]))
    rw [List.takeWhile_cons, List.dropWhile_cons, ha x (by simp), if_pos rfl, i1]
    exact ⟨rfl, i2⟩

def isLow (c : UInt8) : Bool := c == 114 || c == 119 || c == 120 || c == 115 || c == 116
theorem isLow_let {c : UInt8} (h : isLow c = true) : isLet c = true ∧ c ≠ 88 := by
  simp [isLow] at h
  rcases h with (((h | h) | h) | h) | h <;> subst h <;> decide
theorem letsN_low (c : Who) (any : Bool) : ∀ (p : List UInt8) (o : Nat), (∀ x ∈ p, isLow x = true) → letsN c any o p = letsN c false o p
  | [], _, _ => rfl
  | x :: p, o, h => by
    have hx := (isLow_let (h x (by simp))).2
    have e : letN c any x = letN c false x := by
      unfold letN
      rw [if_neg hx, if_neg hx]
    show letsN c any (o ||| letN c any x) p = letsN c false (o ||| letN c false x) p
    rw [e]
    exact letsN_low c any p _ (fun y hy => h y (by simp [hy]))

/-- The bits, and what = takes away, of a clause with one action. -/
def oneS (who : List UInt8) (mask : Nat) (lets : List UInt8) : Nat := masked (!who.isEmpty) mask (letsN (if who = [] then Who.all else who.foldl Who.add Who.none) false 0 lets)
def oneG (who : List UInt8) (mask : Nat) : Nat := masked (!who.isEmpty) mask ((if who = [] then Who.all else who.foldl Who.add Who.none).own ||| (if who = [] then Who.all else who.foldl Who.add Who.none).bes)

theorem one_clause (mask : Nat) (who lets : List UInt8) (sign : UInt8) (m : Nat) (hw : ∀ x ∈ who, isWho x = true) (hl : ∀ x ∈ lets, isLow x = true) (hs : isSign sign = true) :
    clauseL false mask (who ++ sign :: lets) m = some (doSign sign m (oneS who mask lets) (oneG who mask)) := by
  have hns : isWho sign = false := by
    simp [isSign] at hs
    rcases hs with (hs | hs) | hs <;> subst hs <;> decide
  obtain ⟨h1, h2⟩ := while_all (b := lets) hw hns
  obtain ⟨h3, h4⟩ := while_end (p := isLet) (fun x hx => (isLow_let (hl x hx)).1)
  rw [clauseL, h2, if_neg (by simp), actL_yes hs, h3, h4, actL_nil, letsN_low _ _ _ _ hl, whoOf, namedOf, h1]
  rfl

theorem no44 (who lets : List UInt8) (sign : UInt8) (hw : ∀ x ∈ who, isWho x = true) (hl : ∀ x ∈ lets, isLow x = true) (hs : isSign sign = true) : (44 : UInt8) ∉ who ++ sign :: lets := fun h => by
  rcases List.mem_append.1 h with h | h
  · exact absurd (hw 44 h) (by decide)
  · rcases List.mem_cons.1 h with h | h
    · subst h; exact absurd hs (by decide)
    · exact absurd (hl 44 h) (by decide)

theorem no_digit (who r : List UInt8) (sign : UInt8) (hw : ∀ x ∈ who, isWho x = true) (hs : isSign sign = true) : ¬ (48 ≤ ((who ++ sign :: r).getD 0 0).toNat ∧ ((who ++ sign :: r).getD 0 0).toNat ≤ 57) := by
  cases who with
  | nil =>
    simp [isSign] at hs
    rcases hs with (hs | hs) | hs <;> subst hs <;> simp [List.getD]
  | cons x who =>
    have := hw x (by simp)
    simp [isWho] at this
    rcases this with ((h | h) | h) | h <;> subst h <;> simp [List.getD]

theorem one_change (mask : Nat) (who lets : List UInt8) (sign : UInt8) (m : Nat) (hw : ∀ x ∈ who, isWho x = true) (hl : ∀ x ∈ lets, isLow x = true) (hs : isSign sign = true) :
    changeP false mask (who ++ sign :: lets) m = (doSign sign m (oneS who mask lets) (oneG who mask), 0) := by
  rw [changeP, if_neg (by simp), if_neg (no_digit who lets sign hw hs), sp_no (no44 who lets sign hw hl hs), partsL_some (one_clause mask who lets sign m hw hl hs)]
  rfl
theorem two_change (mask : Nat) (who lets : List UInt8) (m : Nat) (hw : ∀ x ∈ who, isWho x = true) (hl : ∀ x ∈ lets, isLow x = true) :
    changeP false mask (who ++ 43 :: lets ++ 44 :: (who ++ 45 :: lets)) m = (andN m (oneS who mask lets), 0) := by
  have e : who ++ 43 :: lets ++ 44 :: (who ++ 45 :: lets) = who ++ 43 :: (lets ++ 44 :: (who ++ 45 :: lets)) := by simp
  rw [changeP, if_neg (by simp), if_neg (by rw [e]; exact no_digit who _ 43 hw (by decide)), sp_app _ (no44 who lets 43 hw hl (by decide)), sp_no (no44 who lets 45 hw hl (by decide)),
    partsL_some (one_clause mask who lets 43 m hw hl (by decide)), partsL_some (one_clause mask who lets 45 _ hw hl (by decide))]
  show (_, (0 : Int)) = _
  rw [← add_gone]
  rfl

/-! ### the walk -/
def onlyB (s of : List UInt8) : Bool := s.all fun c => of.contains c
theorem only_drop {s of : List UInt8} {k : Nat} (hk : k < s.length) : onlyB (s.drop k) of = (of.contains (s.getD k 0) && onlyB (s.drop (k + 1)) of) := by
  rw [onlyB, drop_getD s hk, List.all_cons]; rfl
theorem contains_take {l : List UInt8} {k : Nat} (hk : k < l.length) (c : UInt8) : (l.take (k + 1)).contains c = ((l.take k).contains c || (l.getD k 0 == c)) := by
  have e : l.take (k + 1) = l.take k ++ [l.getD k 0] := by
    rw [List.take_add_one]
    congr 1
    simp [List.getD, List.getElem?_eq_getElem hk]
  rw [e, Bool.eq_iff_iff]
  simp only [List.contains_iff_mem, List.mem_append, List.mem_singleton, Bool.or_eq_true, beq_iff_eq]
  exact ⟨fun h => h.imp id Eq.symm, fun h => h.imp id Eq.symm⟩

set_option maxHeartbeats 2000000 in
set_option maxRecDepth 100000 in
theorem only_any (s of : ByteArray) (w : World) (hs : s.size ≤ 1000) (ho : of.size ≤ 100) :
    Calls Tryd.prog 11 #[.string s, .string of] w fun e w' => e = .returned (.bool (onlyB (L s) (L of))) ∧ Below w.heap.size w w' := by
  go_enter Tryd.func11, Tryd.ntmps11
  go_wp2_with fail
  go_loopw [10] (fun i wr => ∃ k : Nat, k ≤ s.size ∧ i = .int .i64 k ∧ onlyB (L s) (L of) = onlyB ((L s).drop k) (L of) ∧ Below w.heap.size w wr) (fun i _ => s.size - (intOf i).toNat)
  case atStart => exact ⟨0, Nat.zero_le _, rfl, rfl, Below.refl _ _⟩
  case round =>
    obtain ⟨k, hk, rfl, hr, hbw⟩ := hrel
    by_cases hlt : k < s.size
    · have i0 := run_idx (P := Tryd.prog) (k := .i64) Tryd.underlying9 s (k : Int) k rfl hlt
      rw [only_drop (show k < (L s).length from hlt)] at hr
      obtain ⟨c, hc⟩ : ∃ c, c = (L s).getD k 0 := ⟨_, rfl⟩
      rw [← hc] at i0 hr
      have HR := Lib.hid hr
      clear hr hc
      go_wp2_with fail
      go_loopw [6, 15] (fun f i wr => ∃ (j : Nat) (b : Bool), j ≤ of.size ∧ i = .int .i64 j ∧ f = .bool b ∧ b = ((L of).take j).contains c ∧ Below w.heap.size w wr) (fun _ i _ => of.size - (intOf i).toNat)
      case atStart => exact ⟨0, false, Nat.zero_le _, rfl, rfl, rfl, hbw⟩
      case round =>
        obtain ⟨j, b, hj, rfl, rfl, hb, hbw2⟩ := hrel
        by_cases hlt2 : j < of.size
        · have i1 := run_idx (P := Tryd.prog) (k := .i64) Tryd.underlying9 of (j : Int) j rfl hlt2
          have hct := contains_take (show j < (L of).length from hlt2) c
          obtain ⟨d, hd⟩ : ∃ d, d = (L of).getD j 0 := ⟨_, rfl⟩
          rw [← hd] at i1 hct
          rw [← hb] at hct
          have ht : (((d.toNat : Nat) : Int) == ((c.toNat : Nat) : Int)) = (d == c) := by
            by_cases h : d = c
            · rw [eq_byte h, h]; simp
            · rw [ne_byte h]; exact (beq_eq_false_iff_ne.2 h).symm
          obtain ⟨q, hq⟩ : ∃ q, q = (d == c) := ⟨_, rfl⟩
          rw [← hq] at ht hct
          have HCT := Lib.hid hct
          clear hd hb hct hq
          cases b
          all_goals
            go_wp2_with fail
            go_quiet (fail)
            go_wp2_with fail
            go_roundw
            case rel => exact ⟨j + 1, _, by omega, by go_num, rfl, HCT.out.symm, below_drewN hbw2 nq⟩
            case measure => simp [intOf]; omega
        · obtain rfl : j = of.size := by omega
          rw [List.take_of_length_le (by rw [L_size]; exact Nat.le_refl _)] at hb
          cases b with
          | true =>
            have HR2 : Hid (onlyB (L s) (L of) = onlyB ((L s).drop (k + 1)) (L of)) := Lib.hid (by rw [HR.out, ← hb, Bool.true_and])
            clear hb
            go_wp2_with fail
            go_roundw
            case rel => exact ⟨k + 1, by omega, by go_num, HR2.out, hbw2⟩
            case measure => simp [intOf]; omega
          | false =>
            have HR2 : Hid (onlyB (L s) (L of) = false) := Lib.hid (by rw [HR.out, ← hb, Bool.false_and])
            clear hb
            go_wp2_with fail
            go_ret
            exact ⟨ret_bool HR2.out.symm, hbw2⟩
    · obtain rfl : k = s.size := by omega
      have HR2 : Hid (onlyB (L s) (L of) = true) := Lib.hid (by rw [hr, List.drop_of_length_le (by rw [L_size]; exact Nat.le_refl _)]; rfl)
      clear hr
      go_wp2_with fail
      go_ret
      exact ⟨ret_bool HR2.out.symm, hbw⟩
end Go.Proofs.YtbfplannbhafeaaDoor
