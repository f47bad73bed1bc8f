/-
  Sets of bytes that mean nothing there: the plain law; the walk of PatSets.
-/
import Derived.Test.YtiacoomeakodnaaG13
import Derived.Test.YtiacoomeakodnaaByteEq
namespace Go.Proofs.Ytiacoomeakodnaa
open Go.RowKit

def okB (b : UInt8) : Prop := b ≠ 93 ∧ b ≠ 45 ∧ b ≠ 91 ∧ b ≠ 33 ∧ b ≠ 94
def sg (b : UInt8) : Sg := ⟨b, false⟩
theorem isb_ne {b c : UInt8} (h : b ≠ c) : isb (sg b) c = false := by simp [isb, sg, h]
theorem named_ne {b : UInt8} {t : List Sg} (h : b ≠ 91) : namedS (sg b :: t) = none := by
  cases t with
  | nil => rfl
  | cons y t => exact namedS_no (by rw [isb_ne h]; rfl)
theorem range_ne {l : List UInt8} (h : ∀ b ∈ l, okB b) : rangeS (l.map sg ++ [sg 93]) = none := by
  cases l with
  | nil => rfl
  | cons b l =>
    cases l with
    | nil =>
      show (if isb (sg b) 45 && !isb (sg 93) 93 then some (sg 93).b else none) = none
      rw [isb_ne (h b (by simp)).2.1]; rfl
    | cons c l =>
      show (if isb (sg b) 45 && !isb (sg c) 93 then some (sg c).b else none) = none
      rw [isb_ne (h b (by simp)).2.1]; rfl
theorem set_run : ∀ (l : List UInt8) (f : Bool) (k : Nat) (sp : List Span), (∀ b ∈ l, okB b) → (f = true → l ≠ []) → setS f k sp (l.map sg ++ [sg 93]) = some (sp ++ l.map (fun b => (b, b)), k + l.length + 1)
  | [], f, k, sp, _, hf => by
    have : f = false := by
      cases f with
      | false => rfl
      | true => exact absurd rfl (hf rfl)
    subst this
    simp [setS_end (show isb (sg 93) 93 = true by rfl)]
  | b :: l, f, k, sp, h, _ => by
    have hb := h b (by simp)
    have hl : ∀ b ∈ l, okB b := fun b hb => h b (by simp [hb])
    rw [List.map_cons, List.cons_append, setS_one (by rw [isb_ne hb.1]; rfl) (named_ne hb.2.2.1) (range_ne hl), set_run l false _ _ hl (fun h => by cases h)]
    exact congrArg some (Prod.ext (by simp [sg]) (by simp; omega))
theorem not_ne {l : List UInt8} (h : ∀ b ∈ l, okB b) : notS (l.map sg ++ [sg 93]) = false := by
  cases l with
  | nil => rfl
  | cons b l =>
    have hb := h b (by simp)
    show (isb (sg b) 33 || isb (sg b) 94) = false
    rw [isb_ne hb.2.2.2.1, isb_ne hb.2.2.2.2]; rfl
theorem set_yes {l : List UInt8} (h : ∀ b ∈ l, okB b) (hl : l ≠ []) : comp (sg 91 :: (l.map sg ++ [sg 93])) = [⟨91, 0, false, l.map fun b => (b, b)⟩] := by
  have hs : setP (l.map sg ++ [sg 93]) = some (⟨91, 0, false, l.map fun b => (b, b)⟩, l.length + 1) := by
    unfold setP
    rw [not_ne h]
    show (match setS true 0 [] (l.map sg ++ [sg 93]) with
      | some (sp, k) => some (⟨91, 0, false, sp⟩, k)
      | none => none : Option (Pt × Nat)) = _
    rw [set_run l true 0 [] h (fun _ => hl)]
    simp
  rw [comp_set (by rfl) hs, List.drop_of_length_le (by simp), comp_nil]
theorem set_no {l : List UInt8} (h : ∀ b ∈ l, okB b) (hl : l ≠ []) : comp (sg 91 :: sg 33 :: (l.map sg ++ [sg 93])) = [⟨91, 0, true, l.map fun b => (b, b)⟩] := by
  have hs : setP (sg 33 :: (l.map sg ++ [sg 93])) = some (⟨91, 0, true, l.map fun b => (b, b)⟩, 1 + l.length + 1) := by
    unfold setP
    show (match setS true 1 [] (l.map sg ++ [sg 93]) with
      | some (sp, k) => some (⟨91, 0, true, sp⟩, k)
      | none => none : Option (Pt × Nat)) = _
    rw [set_run l true 1 [] h (fun _ => hl)]
    simp
  rw [comp_set (by rfl) hs, List.drop_of_length_le (by simp; omega), comp_nil]
theorem any_span (l : List UInt8) (c : UInt8) : (l.map fun b => (b, b)).any (inSpan c) = l.any (· == c) := by
  induction l with
  | nil => rfl
  | cons b l ih =>
    rw [List.map_cons, List.any_cons, List.any_cons, ih]
    congr 1
    show (decide (b ≤ c) && decide (c ≤ b)) = (b == c)
    rw [Bool.eq_iff_iff]
    simp [UInt8.le_iff_toNat_le]
    constructor
    · rintro ⟨h1, h2⟩; exact UInt8.toNat_inj.1 (by omega)
    · rintro rfl; simp
theorem match_set (neg : Bool) (l : List UInt8) (c : UInt8) : matchP [⟨91, 0, neg, l.map fun b => (b, b)⟩] [c] = (if l.any (· == c) then !neg else neg) := by
  rw [matchP_cons (p := ⟨91, 0, neg, l.map fun b => (b, b)⟩) (fun h => by cases h), matchP_nil]
  show ((if (l.map fun b => (b, b)).any (inSpan c) then !neg else neg) && true) = _
  rw [any_span, Bool.and_true]

theorem notbad (b : UInt8) {c : UInt8} (h : b ≠ c) : (((b.toNat : Nat) : Int) == ((c.toNat : Nat) : Int)) = false := ne_byte h

set_option maxHeartbeats 2000000 in
set_option maxRecDepth 100000 in
theorem sets_any (s : ByteArray) (c : UInt8) (w : World) (hs0 : s.size ≤ maxLen) :
    Calls Try.prog 3 #[.string s, .int .u8 ((c.toNat : Nat) : Int)] w fun e w' => e = .returned (.bool true) ∧ Below w.heap.size w w' := by
  unfold maxLen at hs0
  by_cases hsmall : s.size < 1
  · skip
    go_enter Try.func3, Try.ntmps3
    go_wp2_with fail
    refine (anchor_any _).mono ?_
    rintro e w1 ⟨rfl, hb1⟩
    go_wp2
    go_ret
    exact ⟨rfl, hb1⟩
  by_cases hbig : 60 < s.size
  · skip
    go_enter Try.func3, Try.ntmps3
    go_wp2_with fail
    refine (anchor_any _).mono ?_
    rintro e w1 ⟨rfl, hb1⟩
    go_wp2
    go_ret
    exact ⟨rfl, hb1⟩
  have hs : s.size ≤ 60 := by omega
  have hs1 : 1 ≤ s.size := by omega
  clear hs0 hsmall hbig
  go_enter Try.func3, Try.ntmps3
  go_wp2_with fail
  refine (anchor_any _).mono ?_
  rintro e w1 ⟨rfl, hb1⟩
  have HB1 := Lib.hid hb1
  clear hb1
  go_wp2_with fail
  go_loop [5, 20] (fun f i => ∃ k : Nat, k ≤ s.size ∧ i = .int .i64 k ∧ f = .bool (((L s).take k).any (· == c)) ∧ ∀ b ∈ (L s).take k, okB b) (fun _ i => s.size - (intOf i).toNat)
  case atStart => exact ⟨0, Nat.zero_le _, rfl, rfl, by simp⟩
  case round =>
    obtain ⟨k, hk, rfl, rfl, hok⟩ := hrel
    have HOK := Lib.hid hok
    clear hok
    obtain ⟨q, hq⟩ : ∃ q, ((L s).take k).any (· == c) = q := ⟨_, rfl⟩
    rw [hq]
    have HQ := Lib.hid hq
    clear hq
    by_cases hlt : k < s.size
    · obtain ⟨b, hb⟩ : ∃ b, (L s).getD k 0 = b := ⟨_, rfl⟩
      have hidx := run_idx (P := Try.prog) Try.underlying9 s (k := .i64) (k : Int) k rfl hlt
      rw [hb] at hidx
      have htk : (L s).take (k + 1) = (L s).take k ++ [b] := by
        have h1 : k < (L s).length := hlt
        rw [List.take_succ_eq_append_getElem h1, ← hb]; simp [List.getD, h1]
      have HTK := Lib.hid htk
      clear htk hb
      by_cases h93 : b = 93
      · have e1 : (((b.toNat : Nat) : Int) == 93) = true := eq_byte h93
        clear h93
        go_wp2
        go_ret
        exact ⟨rfl, HB1.out⟩
      have e93 : (((b.toNat : Nat) : Int) == 93) = false := ne_byte h93
      by_cases h45 : b = 45
      · have e1 : (((b.toNat : Nat) : Int) == 45) = true := eq_byte h45
        clear h45
        go_wp2
        go_ret
        exact ⟨rfl, HB1.out⟩
      have e45 : (((b.toNat : Nat) : Int) == 45) = false := ne_byte h45
      by_cases h91 : b = 91
      · have e1 : (((b.toNat : Nat) : Int) == 91) = true := eq_byte h91
        clear h91
        go_wp2
        go_ret
        exact ⟨rfl, HB1.out⟩
      have e91 : (((b.toNat : Nat) : Int) == 91) = false := ne_byte h91
      by_cases h33 : b = 33
      · have e1 : (((b.toNat : Nat) : Int) == 33) = true := eq_byte h33
        clear h33
        go_wp2
        go_ret
        exact ⟨rfl, HB1.out⟩
      have e33 : (((b.toNat : Nat) : Int) == 33) = false := ne_byte h33
      by_cases h94 : b = 94
      · have e1 : (((b.toNat : Nat) : Int) == 94) = true := eq_byte h94
        clear h94
        go_wp2
        go_ret
        exact ⟨rfl, HB1.out⟩
      have e94 : (((b.toNat : Nat) : Int) == 94) = false := ne_byte h94
      have HO2 : Hid (∀ b ∈ (L s).take (k + 1), okB b) := Lib.hid (by
        rw [HTK.out]
        intro x hx
        rcases List.mem_append.1 hx with hx | hx
        · exact HOK.out x hx
        · obtain rfl : x = b := by simpa using hx
          exact ⟨h93, h45, h91, h33, h94⟩)
      clear h93 h45 h91 h33 h94
      have hbc := beq_byte b c
      have HA : Hid (((L s).take (k + 1)).any (· == c) = (q || b == c)) := Lib.hid (by rw [HTK.out, List.any_append, HQ.out]; simp)
      obtain ⟨r, hr⟩ : ∃ r, (b == c) = r := ⟨_, rfl⟩
      rw [hr] at hbc HA
      clear hr
      cases q
      all_goals
        go_wp2
        go_round
        case rel => exact ⟨k + 1, by omega, by go_num, by rw [HA.out]; rfl, HO2.out⟩
        case measure => simp [intOf]; omega
    · obtain rfl : k = s.size := by omega
      have hne : L s ≠ [] := fun h => by
        have : s.size = 0 := congrArg List.length h
        omega
      have htk : (L s).take s.size = L s := List.take_of_length_le (by rw [L_size]; omega)
      have hok := HOK.out
      have hq := HQ.out
      rw [htk] at hok hq
      have P1 : Hid (∀ W, Calls Try.prog 9 #[.string (⟨#[91]⟩ ++ s ++ ⟨#[93]⟩)] W (CompAt W [⟨91, 0, false, (L s).map fun b => (b, b)⟩])) := Lib.hid fun W => by
        rw [← set_yes hok hne, show sg 91 :: ((L s).map sg ++ [sg 93]) = signsP ⟨⟨#[91]⟩ ++ s ++ ⟨#[93]⟩, false⟩ by rw [signsP, L_append, L_append]; simp [sg]]
        exact (plain_any _ W (by rw [← L_size, L_append, L_append]; simp [L_size]; omega)).mono fun e w' h => CompAt.of h
      have P2 : Hid (∀ W, Calls Try.prog 9 #[.string (⟨#[91, 33]⟩ ++ s ++ ⟨#[93]⟩)] W (CompAt W [⟨91, 0, true, (L s).map fun b => (b, b)⟩])) := Lib.hid fun W => by
        rw [← set_no hok hne, show sg 91 :: sg 33 :: ((L s).map sg ++ [sg 93]) = signsP ⟨⟨#[91, 33]⟩ ++ s ++ ⟨#[93]⟩, false⟩ by rw [signsP, L_append, L_append]; simp [sg]]
        exact (plain_any _ W (by rw [← L_size, L_append, L_append]; simp [L_size]; omega)).mono fun e w' h => CompAt.of h
      have M1 := Lib.hid (match_set false (L s) c)
      have M2 := Lib.hid (match_set true (L s) c)
      rw [hq] at M1 M2
      clear hok hq htk hne
      cases q
      all_goals
        go_wp2_with fail
        refine (P1.out _).mono ?_
        rintro e w3 ⟨hb3, va, vn, vc, rfl, hp⟩
        have T1 := match_at hp ⟨#[c]⟩ _ M1.out (by simp) (by simp)
        have HB3 := Lib.hid ((Below.alloc HB1.out HB1.out.size (.cells #[.int .u8 ((c.toNat : Nat) : Int)] 5)).trans (hb3.mono (by have := HB1.out.size; simp; omega)))
        clear hb3 hp
        go_wp2_with fail
        refine (T1.out _ (Below.refl _ _)).mono ?_
        rintro e w4 ⟨rfl, hb4⟩
        have HB4 := Lib.hid (HB3.out.trans (hb4.mono HB3.out.size))
        clear hb4
        go_wp2_with fail
        refine (P2.out _).mono ?_
        rintro e w5 ⟨hb5, va2, vn2, vc2, rfl, hp⟩
        have T2 := match_at hp ⟨#[c]⟩ _ M2.out (by simp) (by simp)
        have HB5 := Lib.hid (HB4.out.trans (hb5.mono HB4.out.size))
        clear hb5 hp
        go_wp2_with fail
        refine (T2.out _ (Below.refl _ _)).mono ?_
        rintro e w6 ⟨rfl, hb6⟩
        have HB6 := Lib.hid (HB5.out.trans (hb6.mono HB5.out.size))
        clear hb6
        go_wp2_with fail
        go_ret
        exact ⟨rfl, HB6.out⟩

theorem sets8_any (s : ByteArray) (x : Int) (w : World) (hs0 : s.size ≤ maxLen) (hx : 0 ≤ x ∧ x ≤ 255) :
    Calls Try.prog 3 #[.string s, .int .u8 x] w fun e w' => e = .returned (.bool true) ∧ Below w.heap.size w w' := by
  rw [u8_of hx.1 (by omega)]
  exact sets_any s _ w hs0
end Go.Proofs.Ytiacoomeakodnaa
