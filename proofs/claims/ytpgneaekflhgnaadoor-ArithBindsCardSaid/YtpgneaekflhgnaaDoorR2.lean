/-
  Plain: how a row of numbers with signs between them is spelled; what comes behind a number.
-/
import Derived.Test.YtpgneaekflhgnaaDoorR0
import Derived.Test.YtpgneaekflhgnaaDoorR1
namespace Go.Proofs.YtpgneaekflhgnaaDoor
open Go.RowKit

/-! ### how a row is spelled -/
def blankB (c : UInt8) : Bool := c == 32 || c == 9 || c == 10
def skipB (l : List UInt8) : List UInt8 := l.dropWhile blankB
def letB (c : UInt8) : Bool := (decide (48 ≤ c.toNat) && decide (c.toNat ≤ 57)) || (decide (97 ≤ c.toNat) && decide (c.toNat ≤ 122)) || (decide (65 ≤ c.toNat) && decide (c.toNat ≤ 90))
def padB (bl : Bool) : List UInt8 := if bl then [32] else []
def tailS (bl : Bool) : List Tok → List UInt8
  | [] => []
  | (o, y) :: r => opB o ++ (padB bl ++ (Lib.decDigits y.toNat ++ tailS bl r))
def spellS (bl : Bool) (n : Int) (l : List Tok) : List UInt8 := Lib.decDigits n.toNat ++ tailS bl l
theorem dec_dig (n : Nat) : ∀ c ∈ Lib.decDigits n, 48 ≤ c.toNat ∧ c.toNat ≤ 57 := by
  induction n using Nat.strongRecOn with
  | ind n ih =>
    rw [Lib.decDigits]
    split
    · rename_i h
      intro c hc
      have : c = UInt8.ofNat (48 + n) := by simpa using hc
      rw [this, dec_byte h]
      omega
    · rename_i h
      intro c hc
      rcases List.mem_append.1 hc with hc | hc
      · exact ih (n / 10) (by omega) c hc
      · have : c = UInt8.ofNat (48 + n % 10) := by simpa using hc
        rw [this, dec_byte (Nat.mod_lt _ (by omega))]
        omega
theorem dig_not_blank {c : UInt8} (h : 48 ≤ c.toNat) : blankB c = false := by
  rcases Bool.eq_false_or_eq_true (blankB c) with hb | hb
  · exfalso
    simp only [blankB, Bool.or_eq_true, beq_iff_eq] at hb
    rcases hb with (hb | hb) | hb <;> subst hb <;> simp at h
  · exact hb
theorem dig_let {c : UInt8} (h : 48 ≤ c.toNat ∧ c.toNat ≤ 57) : letB c = true := by simp [letB, h.1, h.2]
theorem opB_head : ∀ o, o < 18 → (match opB o with | [] => false | c :: _ => !blankB c && !letB c && sgnB c) = true := by decide
theorem opB_cons {o : Nat} (ho : o < 18) : ∃ c r, opB o = c :: r ∧ blankB c = false ∧ letB c = false ∧ sgnB c = true := by
  have h := opB_head o ho
  cases he : opB o with
  | nil => rw [he] at h; exact absurd h (by simp)
  | cons c r =>
    rw [he] at h
    simp only [Bool.and_eq_true, Bool.not_eq_true'] at h
    exact ⟨c, r, rfl, h.1.1, h.1.2, h.2⟩
theorem skip_cons {c : UInt8} (h : blankB c = false) (r : List UInt8) : skipB (c :: r) = c :: r := by
  rw [skipB, List.dropWhile_cons, h]; rfl
theorem skip_dec (n : Nat) (r : List UInt8) : skipB (Lib.decDigits n ++ r) = Lib.decDigits n ++ r := by
  have h := dec_ne n
  have hd := dec_dig n
  cases he : Lib.decDigits n with
  | nil => exact absurd he h
  | cons c t =>
    rw [he] at hd
    exact skip_cons (dig_not_blank (hd c (by simp)).1) _
theorem skip_pad (bl : Bool) (n : Nat) (r : List UInt8) : skipB (padB bl ++ (Lib.decDigits n ++ r)) = Lib.decDigits n ++ r := by
  cases bl with
  | false => exact skip_dec n r
  | true =>
    show skipB (32 :: _) = _
    rw [skipB, List.dropWhile_cons, if_pos (by decide)]
    exact skip_dec n r
theorem skip_tail {bl : Bool} {l : List Tok} (hl : ∀ t ∈ l, t.1 < 18) : skipB (tailS bl l) = tailS bl l := by
  cases l with
  | nil => rfl
  | cons t l =>
    obtain ⟨c, r, h1, h2, _⟩ := opB_cons (hl t (by simp))
    rw [tailS, h1]
    exact skip_cons h2 _
/-- The letters of a number that is spelled there. -/
theorem take_dec {bl : Bool} {l : List Tok} (n : Nat) (hl : ∀ t ∈ l, t.1 < 18) : (Lib.decDigits n ++ tailS bl l).takeWhile letB = Lib.decDigits n := by
  have hd := dec_dig n
  have e : ∀ (a b : List UInt8), (∀ c ∈ a, letB c = true) → (∀ c r, b = c :: r → letB c = false) → (a ++ b).takeWhile letB = a := by
    intro a
    induction a with
    | nil =>
      intro b _ hb
      cases b with
      | nil => rfl
      | cons c r =>
        show List.takeWhile letB (c :: r) = []
        rw [List.takeWhile_cons, hb c r rfl]; rfl
    | cons x a ih =>
      intro b ha hb
      show List.takeWhile letB (x :: (a ++ b)) = _
      rw [List.takeWhile_cons, ha x (by simp), ih b (fun c hc => ha c (by simp [hc])) hb]; rfl
  refine e _ _ (fun c hc => dig_let (hd c hc)) ?_
  intro c r hcr
  cases l with
  | nil => exact absurd hcr (by simp [tailS])
  | cons t l =>
    obtain ⟨c', r', h1, _, h3, _⟩ := opB_cons (hl t (by simp))
    rw [tailS, h1] at hcr
    have : c' = c := (List.cons.inj hcr).1
    rw [← this]
    exact h3
/-- Which sign comes behind a number. -/
theorem sign_tail {bl : Bool} {n o : Nat} {y : Int} {l : List Tok} (hn : n < 10) (ho : o < 18) :
    signL n (tailS bl ((o, y) :: l)) = if opLev o = n then some o else none := by
  have h := dec_ne y.toNat
  have hd := dec_dig y.toNat
  rw [tailS]
  cases bl with
  | true => exact sign_at hn ho (by decide) _
  | false =>
    cases he : Lib.decDigits y.toNat with
    | nil => exact absurd he h
    | cons c t =>
      rw [he] at hd
      have hc := hd c (by simp)
      exact sign_at hn ho (by simp [offB, hc.1, hc.2]) _

end Go.Proofs.YtpgneaekflhgnaaDoor
