/-
  What letters mean, bit by bit: the plain law, and the document's walks.
-/
import Derived.Test.YtbfplannbhafeaaDoorM11
namespace Go.Proofs.YtbfplannbhafeaaDoor
open Go.RowKit

def whoBit (c : Who) (i : Nat) : Bool := if i = 0 then c.o else if i = 1 then c.g else c.u
/-- The document's answer. -/
def meantB (p : List UInt8) (c : Who) (i : Nat) (any : Bool) : Bool :=
  if i = 9 then p.contains 116 else if i = 10 then p.contains 115 && c.g else if i = 11 then p.contains 115 && c.u else
  if whoBit c (i / 3) = false then false else if i % 3 = 0 then p.contains 120 || (p.contains 88 && any) else if i % 3 = 1 then p.contains 119 else p.contains 114
def goneB (c : Who) (i : Nat) : Bool := if i < 9 then whoBit c (i / 3) else (decide (i = 10) && c.g) || (decide (i = 11) && c.u)

theorem any_let {F : UInt8 → Bool} : ∀ (p : List UInt8), (∀ x ∈ p, isLet x = true) → p.any F =
    ((p.contains 114 && F 114) || (p.contains 119 && F 119) || (p.contains 120 && F 120) || (p.contains 88 && F 88) || (p.contains 115 && F 115) || (p.contains 116 && F 116))
  | [], _ => rfl
  | x :: p, h => by
    have ih := any_let p (fun y hy => h y (by simp [hy])) (F := F)
    have hx := h x (by simp)
    simp [isLet] at hx
    rw [List.any_cons, ih]
    simp only [List.contains_cons]
    rcases hx with ((((hx | hx) | hx) | hx) | hx) | hx <;> subst hx
    all_goals
      generalize F 114 = f1
      generalize F 119 = f2
      generalize F 120 = f3
      generalize F 88 = f4
      generalize F 115 = f5
      generalize F 116 = f6
      generalize p.contains 114 = q1
      generalize p.contains 119 = q2
      generalize p.contains 120 = q3
      generalize p.contains 88 = q4
      generalize p.contains 115 = q5
      generalize p.contains 116 = q6
      revert f1 f2 f3 f4 f5 f6 q1 q2 q3 q4 q5 q6
      decide +kernel

theorem letsN_bit (c : Who) (any : Bool) (i : Nat) : ∀ (p : List UInt8) (o : Nat), (letsN c any o p).testBit i = (o.testBit i || p.any fun l => (letN c any l).testBit i)
  | [], o => by simp [letsN]
  | l :: p, o => by
    show (letsN c any (o ||| letN c any l) p).testBit i = _
    rw [letsN_bit c any i p, Nat.testBit_or, List.any_cons, Bool.or_assoc]

theorem let_table : ∀ (u g o any : Bool) (i : Fin 12),
    (letN ⟨u, g, o⟩ any 114).testBit i = (decide (i.val < 9) && decide (i.val % 3 = 2) && whoBit ⟨u, g, o⟩ (i.val / 3)) ∧
    (letN ⟨u, g, o⟩ any 119).testBit i = (decide (i.val < 9) && decide (i.val % 3 = 1) && whoBit ⟨u, g, o⟩ (i.val / 3)) ∧
    (letN ⟨u, g, o⟩ any 120).testBit i = (decide (i.val < 9) && decide (i.val % 3 = 0) && whoBit ⟨u, g, o⟩ (i.val / 3)) ∧
    (letN ⟨u, g, o⟩ any 88).testBit i = (decide (i.val < 9) && decide (i.val % 3 = 0) && whoBit ⟨u, g, o⟩ (i.val / 3) && any) ∧
    (letN ⟨u, g, o⟩ any 115).testBit i = ((decide (i.val = 10) && g) || (decide (i.val = 11) && u)) ∧
    (letN ⟨u, g, o⟩ any 116).testBit i = decide (i.val = 9) ∧
    ((⟨u, g, o⟩ : Who).own ||| (⟨u, g, o⟩ : Who).bes).testBit i = goneB ⟨u, g, o⟩ i.val := by decide +kernel

theorem meant_law (c : Who) (any : Bool) (p : List UInt8) (i : Nat) (hi : i < 12) (hp : ∀ x ∈ p, isLet x = true) : (letsN c any 0 p).testBit i = meantB p c i any := by
  obtain ⟨u, g, o⟩ := c
  obtain ⟨t1, t2, t3, t4, t5, t6, _⟩ := let_table u g o any ⟨i, hi⟩
  rw [letsN_bit, Nat.zero_testBit, Bool.false_or, any_let p hp]
  simp only at t1 t2 t3 t4 t5 t6
  rw [t1, t2, t3, t4, t5, t6]
  unfold meantB
  generalize p.contains 114 = q1
  generalize p.contains 119 = q2
  generalize p.contains 120 = q3
  generalize p.contains 88 = q4
  generalize p.contains 115 = q5
  generalize p.contains 116 = q6
  have : ∀ (i : Fin 12) (u g o any q1 q2 q3 q4 q5 q6 : Bool),
      (q1 && (decide (i.val < 9) && decide (i.val % 3 = 2) && whoBit ⟨u, g, o⟩ (i.val / 3)) || q2 && (decide (i.val < 9) && decide (i.val % 3 = 1) && whoBit ⟨u, g, o⟩ (i.val / 3)) || q3 && (decide (i.val < 9) && decide (i.val % 3 = 0) && whoBit ⟨u, g, o⟩ (i.val / 3)) || q4 && (decide (i.val < 9) && decide (i.val % 3 = 0) && whoBit ⟨u, g, o⟩ (i.val / 3) && any) || q5 && (decide (i.val = 10) && g || decide (i.val = 11) && u) || q6 && decide (i.val = 9)) =
      (if i.val = 9 then q6 else if i.val = 10 then q5 && g else if i.val = 11 then q5 && u else if whoBit ⟨u, g, o⟩ (i.val / 3) = false then false else if i.val % 3 = 0 then q3 || (q4 && any) else if i.val % 3 = 1 then q2 else q1) := by decide +kernel
  exact this ⟨i, hi⟩ u g o any q1 q2 q3 q4 q5 q6

theorem gone_law (c : Who) (i : Nat) (hi : i < 12) : (c.own ||| c.bes).testBit i = goneB c i := by
  obtain ⟨u, g, o⟩ := c
  exact (let_table u g o false ⟨i, hi⟩).2.2.2.2.2.2

/-- One bit of what an action leaves. -/
theorem act_bit (c : Who) (named any : Bool) (mask m : Nat) (p : List UInt8) (sign : UInt8) (i : Nat) (hi : i < 12) (hp : ∀ x ∈ p, isLet x = true) :
    (doSign sign m (masked named mask (letsN c any 0 p)) (masked named mask (c.own ||| c.bes))).testBit i =
      if named = false ∧ i < 9 ∧ mask.testBit i = true then m.testBit i else
      if sign = 43 then (meantB p c i any || m.testBit i) else if sign = 45 then (!meantB p c i any && m.testBit i) else if (meantB p c i any || goneB c i) = true then meantB p c i any else m.testBit i := by
  have h511 : (511 : Nat).testBit i = decide (i < 9) := by
    have : ∀ i : Fin 12, (511 : Nat).testBit i.val = decide (i.val < 9) := by decide
    exact this ⟨i, hi⟩
  have hmask : ∀ x : Nat, (masked named mask x).testBit i = (x.testBit i && !(!named && decide (i < 9) && mask.testBit i)) := fun x => by
    unfold masked
    split
    · rename_i h; rw [h]; simp
    · rename_i h
      have : named = false := by simpa using h
      rw [andN_bit, Nat.testBit_and, h511, this]
      cases mask.testBit i <;> cases decide (i < 9) <;> rfl
  have hS := meant_law c any p i hi hp
  have hG := gone_law c i hi
  have hbits : ∀ s' g' : Nat, (doSign sign m s' g').testBit i = if sign = 43 then (m.testBit i || s'.testBit i) else if sign = 45 then (m.testBit i && !s'.testBit i) else ((m.testBit i && !g'.testBit i) || s'.testBit i) := fun s' g' => by
    unfold doSign
    split
    · rw [Nat.testBit_or]
    · split
      · rw [andN_bit]
      · rw [Nat.testBit_or, andN_bit]
  rw [hbits, hmask, hmask, hS, hG]
  have hcond : (named = false ∧ i < 9 ∧ mask.testBit i = true) ↔ (!named && decide (i < 9) && mask.testBit i) = true := by
    cases named <;> simp
  by_cases hc : (!named && decide (i < 9) && mask.testBit i) = true
  · rw [if_pos (hcond.2 hc), hc]
    simp
  · rw [if_neg (fun h => hc (hcond.1 h)), Bool.eq_false_iff.2 hc]
    simp only [Bool.not_false, Bool.and_true]
    cases meantB p c i any <;> cases m.testBit i <;> cases goneB c i <;> simp
end Go.Proofs.YtbfplannbhafeaaDoor
