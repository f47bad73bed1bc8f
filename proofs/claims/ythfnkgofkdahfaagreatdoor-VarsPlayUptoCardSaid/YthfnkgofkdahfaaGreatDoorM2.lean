/-
  A shell's variables, plain: a map and a list that hold the same; the environment, collected in whatever order.
-/
import Derived.Test.YthfnkgofkdahfaaGreatDoorM1
import Derived.Test.YthfnkgofkdahfaaGreatDoorMap
namespace Go.Proofs.YthfnkgofkdahfaaGreatDoor
open Go.RowKit

/-- A variable, as a value. -/
def VX (x : Xd) : Value := .agg #[.string ⟨x.text.toArray⟩, .bool x.set, .bool x.exp, .bool x.fix]
/-- The map holds what the list holds. -/
def MRel (m : Nm → Option Value) (l : List (Nm × Xd)) : Prop := ∀ t, (m t = none ∧ find l t = d0) ∨ m t = some (VX (find l t))
theorem MRel.nil : MRel (fun _ => none) [] := fun _ => .inl ⟨rfl, rfl⟩
theorem MRel.put {m : Nm → Option Value} {l : List (Nm × Xd)} (h : MRel m l) (k : Nm) (x : Xd) : MRel (fun t => if t = k then some (VX x) else m t) (putL l k x) := by
  intro t
  rw [find_putL]
  by_cases e : t = k
  · rw [if_pos e]; exact .inr (if_pos e)
  · rw [if_neg e]
    show ((if t = k then some (VX x) else m t) = none ∧ _) ∨ (if t = k then some (VX x) else m t) = _
    rw [if_neg e]
    exact h t
theorem MRel.drop {m : Nm → Option Value} {l : List (Nm × Xd)} (h : MRel m l) (k : Nm) : MRel (fun t => if t = k then none else m t) (putL l k d0) := by
  intro t
  rw [find_putL]
  by_cases e : t = k
  · rw [if_pos e]; exact .inl ⟨if_pos e, rfl⟩
  · rw [if_neg e]
    show ((if t = k then none else m t) = none ∧ _) ∨ (if t = k then none else m t) = _
    rw [if_neg e]
    exact h t
theorem MRel.get {m : Nm → Option Value} {l : List (Nm × Xd)} (h : MRel m l) (k : Nm) : (m k).getD (VX d0) = VX (find l k) := by
  rcases h k with ⟨h1, h2⟩ | h1
  · rw [h1, h2]; rfl
  · rw [h1]; rfl
/-- What the environment's loop has collected. -/
def EnvTo (l : List (Nm × Xd)) (left : Nm → Bool) (es : List (Nm × Nm)) : Prop :=
  (es.Pairwise fun p q => p.1 ≠ q.1) ∧ ∀ p, p ∈ es ↔ (inEnv (find l p.1) = true ∧ (find l p.1).text = p.2 ∧ left p.1 = false)
theorem EnvTo.start {m : Nm → Option Value} {l : List (Nm × Xd)} (h : MRel m l) : EnvTo l (fun t => (m t).isSome) [] := by
  refine ⟨List.Pairwise.nil, fun p => ⟨fun hp => by simp at hp, fun ⟨h1, _, h3⟩ => ?_⟩⟩
  rcases h p.1 with ⟨_, h5⟩ | h4
  · rw [h5] at h1; cases h1
  · simp [h4] at h3
theorem EnvTo.out {l : List (Nm × Xd)} {left : Nm → Bool} {es : List (Nm × Nm)} (h : EnvTo l left es) {k : Nm} (hk : inEnv (find l k) = false) : EnvTo l (fun t => left t && !decide (t = k)) es := by
  refine ⟨h.1, fun p => (h.2 p).trans ⟨fun ⟨h1, h2, h3⟩ => ⟨h1, h2, by simp [h3]⟩, fun ⟨h1, h2, h3⟩ => ⟨h1, h2, ?_⟩⟩⟩
  by_cases e : p.1 = k
  · rw [e, hk] at h1; cases h1
  · simpa [e] using h3
theorem EnvTo.snoc {l : List (Nm × Xd)} {left : Nm → Bool} {es : List (Nm × Nm)} (h : EnvTo l left es) {k : Nm} (hl : left k = true) (hk : inEnv (find l k) = true) : EnvTo l (fun t => left t && !decide (t = k)) (es ++ [(k, (find l k).text)]) := by
  refine ⟨List.pairwise_append.2 ⟨h.1, by simp, fun p hp q hq e => ?_⟩, fun p => ?_⟩
  · simp only [List.mem_singleton] at hq
    subst hq
    have := ((h.2 p).1 hp).2.2
    rw [e, hl] at this
    cases this
  · rw [List.mem_append, h.2 p, List.mem_singleton]
    constructor
    · rintro (⟨h1, h2, h3⟩ | rfl)
      · exact ⟨h1, h2, by simp [h3]⟩
      · exact ⟨hk, rfl, by simp⟩
    · rintro ⟨h1, h2, h3⟩
      by_cases e : p.1 = k
      · exact .inr (Prod.ext e (by rw [← h2, e]))
      · exact .inl ⟨h1, h2, by simpa [e] using h3⟩
theorem EnvTo.done {l : List (Nm × Xd)} {left : Nm → Bool} {es : List (Nm × Nm)} (h : EnvTo l left es) (hl : Rising l) (hd : ∀ t, left t = false) : ∀ p, p ∈ es ↔ p ∈ envR l := fun p => by
  rw [h.2 p, env_mem hl]
  exact ⟨fun ⟨h1, h2, _⟩ => ⟨h1, h2⟩, fun ⟨h1, h2⟩ => ⟨h1, h2, hd _⟩⟩
/-- The names are names. -/
def NoEq (l : List (Nm × Xd)) : Prop := ∀ p ∈ l, 61 ∉ p.1
theorem NoEq.put {l : List (Nm × Xd)} (h : NoEq l) {k : Nm} (hk : 61 ∉ k) (x : Xd) : NoEq (putL l k x) := by
  intro p hp
  rw [putL, List.mem_append, List.mem_cons] at hp
  rcases hp with hp | rfl | hp
  · exact h p (List.mem_filter.1 hp).1
  · exact hk
  · exact h p (List.mem_filter.1 hp).1
theorem EnvTo.names {l : List (Nm × Xd)} {left : Nm → Bool} {es : List (Nm × Nm)} (h : EnvTo l left es) (hn : NoEq l) : ∀ p ∈ es, 61 ∉ p.1 := fun p hp => by
  have h1 := ((h.2 p).1 hp).1
  exact hn _ (find_mem (l := l) (k := p.1) fun e => by rw [e] at h1; cases h1)
end Go.Proofs.YthfnkgofkdahfaaGreatDoor
