/-
  A shell's variables, plain: by name, in a list by rising names; the environment's entries, and what a sort by names makes of them.
-/
import Derived.Test.YthfnkgofkdahfaaGreatDoorLib
import Derived.Lib.Bytealg
import Derived.Lib.IndexMore
import Derived.Lib.IndexBytes
namespace Go.Proofs.YthfnkgofkdahfaaGreatDoor
open Go.RowKit

abbrev Nm := List UInt8
theorem nm_irrefl (a : Nm) : ¬ a < a := List.lt_irrefl a
theorem nm_trans {a b c : Nm} (h : a < b) (k : b < c) : a < c := List.lt_trans h k
theorem nm_tri (a b : Nm) : a < b ∨ a = b ∨ b < a := by
  by_cases h1 : a < b
  · exact .inl h1
  · by_cases h2 : b < a
    · exact .inr (.inr h2)
    · exact .inr (.inl (List.le_antisymm (List.not_lt.1 h2) (List.not_lt.1 h1)))
theorem cmp_lt : ∀ a b : Nm, (Go.Lib.compareBytes a b < 0) ↔ a < b
  | [], [] => by simp [Go.Lib.compareBytes]
  | [], _ :: _ => by simp [Go.Lib.compareBytes]
  | _ :: _, [] => by simp [Go.Lib.compareBytes]
  | a :: xs, b :: ys => by
    rw [Go.Lib.compareBytes, List.cons_lt_cons_iff]
    by_cases h1 : a < b
    · simp [h1]
    · by_cases h2 : b < a
      · have : a ≠ b := fun e => by subst e; exact h1 h2
        simp [h1, h2, this]
      · have e : a = b := UInt8.le_antisymm (UInt8.not_lt.1 h2) (UInt8.not_lt.1 h1)
        subst e
        simp [cmp_lt xs ys]

/-- A variable. -/
structure Xd where
  text : Nm
  set : Bool
  exp : Bool
  fix : Bool
def d0 : Xd := ⟨[], false, false, false⟩
def find : List (Nm × Xd) → Nm → Xd
  | [], _ => d0
  | p :: r, k => if p.1 = k then p.2 else find r k
def putL (l : List (Nm × Xd)) (k : Nm) (x : Xd) : List (Nm × Xd) := l.filter (fun p => decide (p.1 < k)) ++ (k, x) :: l.filter (fun p => decide (k < p.1))
def Rising (l : List (Nm × Xd)) : Prop := l.Pairwise fun p q => p.1 < q.1
theorem put_rising {l : List (Nm × Xd)} (h : Rising l) (k : Nm) (x : Xd) : Rising (putL l k x) := by
  rw [Rising, putL, List.pairwise_append, List.pairwise_cons]
  refine ⟨h.sublist List.filter_sublist, ⟨fun p hp => by simpa using (List.mem_filter.1 hp).2, h.sublist List.filter_sublist⟩, fun p hp q hq => ?_⟩
  have h1 : p.1 < k := by simpa using (List.mem_filter.1 hp).2
  rcases List.mem_cons.1 hq with rfl | hq
  · exact h1
  · exact nm_trans h1 (by simpa using (List.mem_filter.1 hq).2)
theorem find_append (a b : List (Nm × Xd)) (k : Nm) (h : ∀ p ∈ a, p.1 ≠ k) : find (a ++ b) k = find b k := by
  induction a with
  | nil => rfl
  | cons p r ih => rw [List.cons_append, find, if_neg (h p (by simp)), ih fun q hq => h q (by simp [hq])]
theorem find_filter (l : List (Nm × Xd)) (f : Nm × Xd → Bool) (k : Nm) (h : ∀ p, p.1 = k → f p = true) : find (l.filter f) k = find l k := by
  induction l with
  | nil => rfl
  | cons p r ih =>
    rw [List.filter_cons, find]
    by_cases hp : p.1 = k
    · rw [if_pos (h p hp), find, if_pos hp, if_pos hp]
    · rw [if_neg hp]
      split
      · rw [find, if_neg hp, ih]
      · exact ih
theorem find_none (l : List (Nm × Xd)) (k : Nm) (h : ∀ p ∈ l, p.1 ≠ k) : find l k = d0 := by
  have := find_append l [] k h
  rwa [List.append_nil] at this
theorem find_app2 (a b : List (Nm × Xd)) (k : Nm) (h : ∀ p ∈ b, p.1 ≠ k) : find (a ++ b) k = find a k := by
  induction a with
  | nil => rw [List.nil_append, find_none b k h]; rfl
  | cons p r ih => rw [List.cons_append, find, find, ih]
theorem find_putL (l : List (Nm × Xd)) (k k' : Nm) (x : Xd) : find (putL l k x) k' = if k' = k then x else find l k' := by
  have hl : ∀ p ∈ l.filter (fun p => decide (p.1 < k)), p.1 < k := fun p hp => by simpa using (List.mem_filter.1 hp).2
  have hr : ∀ p ∈ l.filter (fun p => decide (k < p.1)), k < p.1 := fun p hp => by simpa using (List.mem_filter.1 hp).2
  by_cases e : k' = k
  · subst e
    rw [if_pos rfl, putL, find_append _ _ _ fun p hp e => nm_irrefl _ (e ▸ hl p hp), find, if_pos rfl]
  · rw [if_neg e, putL]
    rcases nm_tri k' k with h | h | h
    · rw [find_app2 _ _ _ fun p hp e2 => ?_]
      · exact find_filter l _ k' fun p hp => by simpa [hp] using h
      · rcases List.mem_cons.1 hp with rfl | hp
        · exact e e2.symm
        · exact nm_irrefl _ (nm_trans h (by have := hr p hp; rwa [e2] at this))
    · exact absurd h e
    · rw [find_append _ _ _ fun p hp e2 => nm_irrefl _ (nm_trans h (by have := hl p hp; rwa [e2] at this)), find, if_neg (fun h => e h.symm)]
      exact find_filter l _ k' fun p hp => by simpa [hp] using h
theorem mem_find {l : List (Nm × Xd)} (h : Rising l) {p : Nm × Xd} (hp : p ∈ l) : find l p.1 = p.2 := by
  induction l with
  | nil => simp at hp
  | cons q r ih =>
    rw [Rising, List.pairwise_cons] at h
    rw [find]
    rcases List.mem_cons.1 hp with rfl | hp
    · rw [if_pos rfl]
    · rw [if_neg (fun e => nm_irrefl _ (by have := h.1 p hp; rwa [e] at this)), ih h.2 hp]
theorem find_mem {l : List (Nm × Xd)} {k : Nm} (h : find l k ≠ d0) : (k, find l k) ∈ l := by
  induction l with
  | nil => exact absurd rfl h
  | cons q r ih =>
    rw [find] at h ⊢
    by_cases e : q.1 = k
    · rw [if_pos e]; subst e; simp
    · rw [if_neg e] at h ⊢; exact List.mem_cons_of_mem _ (ih h)
/-- What is in the environment. -/
def inEnv (x : Xd) : Bool := x.set && x.exp
def envR (l : List (Nm × Xd)) : List (Nm × Nm) := (l.filter fun p => inEnv p.2).map fun p => (p.1, p.2.text)
theorem env_rising {l : List (Nm × Xd)} (h : Rising l) : (envR l).Pairwise fun p q => p.1 < q.1 := by
  rw [envR, List.pairwise_map]
  exact h.sublist List.filter_sublist
theorem env_mem {l : List (Nm × Xd)} (h : Rising l) (k t : Nm) : (k, t) ∈ envR l ↔ (inEnv (find l k) = true ∧ (find l k).text = t) := by
  rw [envR, List.mem_map]
  constructor
  · rintro ⟨p, hp, e⟩
    rw [List.mem_filter] at hp
    cases e
    rw [mem_find h hp.1]
    exact ⟨hp.2, rfl⟩
  · rintro ⟨h1, rfl⟩
    refine ⟨(k, find l k), List.mem_filter.2 ⟨find_mem fun e => ?_, h1⟩, rfl⟩
    rw [e] at h1; cases h1
/-- Two lists by rising names that hold the same are one. -/
theorem rising_one : ∀ {a b : List (Nm × Nm)}, a.Pairwise (fun p q => p.1 < q.1) → b.Pairwise (fun p q => p.1 < q.1) → (∀ p, p ∈ a ↔ p ∈ b) → a = b
  | [], [], _, _, _ => rfl
  | [], q :: b, _, _, h => by have := (h q).2 (by simp); simp at this
  | p :: a, [], _, _, h => by have := (h p).1 (by simp); simp at this
  | p :: a, q :: b, ha, hb, h => by
    rw [List.pairwise_cons] at ha hb
    have e : p = q := by
      rcases List.mem_cons.1 ((h p).1 (by simp)) with e | hp
      · exact e
      · rcases List.mem_cons.1 ((h q).2 (by simp)) with e | hq
        · exact e.symm
        · exact absurd (nm_trans (ha.1 q hq) (hb.1 p hp)) (nm_irrefl _)
    subst e
    rw [rising_one ha.2 hb.2 fun r => ?_]
    constructor
    · intro hr
      rcases List.mem_cons.1 ((h r).1 (List.mem_cons_of_mem _ hr)) with e | hr2
      · subst e; exact absurd (ha.1 r hr) (nm_irrefl _)
      · exact hr2
    · intro hr
      rcases List.mem_cons.1 ((h r).2 (List.mem_cons_of_mem _ hr)) with e | hr2
      · subst e; exact absurd (hb.1 r hr) (nm_irrefl _)
      · exact hr2
/-- An entry of the environment. -/
def ent (p : Nm × Nm) : Nm := p.1 ++ 61 :: p.2
def dec (s : Nm) : Nm × Nm := ((Go.Lib.cut s [61]).1, (Go.Lib.cut s [61]).2.1)
theorem index_ent : ∀ {k t : Nm}, 61 ∉ k → Go.Lib.index (k ++ 61 :: t) [61] = k.length
  | [], t, _ => by rw [Go.Lib.index_one]; rfl
  | a :: k, t, h => by
    have h1 : a ≠ 61 := fun e => h (by simp [e])
    have ih := index_ent (k := k) (t := t) fun e => h (by simp [e])
    rw [Go.Lib.index_one] at ih ⊢
    rw [List.cons_append, Go.Lib.indexByte]
    simp [h1, ih]
theorem index_no : ∀ {s : Nm}, 61 ∉ s → Go.Lib.index s [61] = -1
  | [], _ => by rw [Go.Lib.index_one]; rfl
  | a :: s, h => by
    have h1 : a ≠ 61 := fun e => h (by simp [e])
    have ih := index_no (s := s) fun e => h (by simp [e])
    rw [Go.Lib.index_one] at ih ⊢
    rw [Go.Lib.indexByte]
    simp [h1, ih]
theorem cut_ent {k t : Nm} (h : 61 ∉ k) : Go.Lib.cut (k ++ 61 :: t) [61] = (k, t, true) := by
  rw [Go.Lib.cut, index_ent h, if_pos (by omega)]
  simp
theorem cut_no {s : Nm} (h : 61 ∉ s) : Go.Lib.cut s [61] = (s, [], false) := by
  rw [Go.Lib.cut, index_no h, if_neg (by omega)]
theorem ent_or (s : Nm) : 61 ∉ s ∨ ∃ k t, 61 ∉ k ∧ s = k ++ 61 :: t := by
  induction s with
  | nil => exact .inl (by simp)
  | cons a s ih =>
    by_cases e : a = 61
    · exact .inr ⟨[], s, by simp, by rw [e]; rfl⟩
    · rcases ih with h | ⟨k, t, h1, h2⟩
      · exact .inl (by simp [h, Ne.symm e])
      · exact .inr ⟨a :: k, t, by simp [h1, Ne.symm e], by rw [h2]; rfl⟩
theorem dec_ent {p : Nm × Nm} (h : 61 ∉ p.1) : dec (ent p) = p := by rw [dec, ent, cut_ent h]
/-- How the environment's sort tells two entries apart. -/
def cfE (a b : Nm) : Int := Go.Lib.compareBytes (Go.Lib.cut a [61]).1 (Go.Lib.cut b [61]).1
/-- What a sort by names makes of the entries. -/
theorem sorted_env {l : List (Nm × Xd)} (hl : Rising l) {es : List (Nm × Nm)} {d : List Nm} (hp : d.Perm (es.map ent)) (hn : ∀ p ∈ es, 61 ∉ p.1) (hd : es.Pairwise fun p q => p.1 ≠ q.1) (hm : ∀ p, p ∈ es ↔ p ∈ envR l)
    (hs : d.Pairwise fun a b => ¬ cfE b a < 0) : d = (envR l).map ent := by
  have h1 : (d.map dec).Perm es := by
    have := hp.map dec
    rw [List.map_map] at this
    have e : es.map (dec ∘ ent) = es := by
      conv => rhs; rw [← List.map_id es]
      exact List.map_congr_left fun p hp => dec_ent (hn p hp)
    rwa [e] at this
  have h2 : (d.map dec).map ent = d := by
    rw [List.map_map]
    conv => rhs; rw [← List.map_id d]
    refine List.map_congr_left fun s hs => ?_
    obtain ⟨p, hp2, rfl⟩ := List.mem_map.1 (hp.mem_iff.1 hs)
    show ent (dec (ent p)) = ent p
    rw [dec_ent (hn p hp2)]
  have h3 : (d.map dec).Pairwise fun p q => p.1 ≠ q.1 := (h1.pairwise_iff fun h e => h e.symm).2 hd
  have h4 : (d.map dec).Pairwise fun p q => ¬ q.1 < p.1 := by
    rw [List.pairwise_map]
    exact hs.imp fun {a b} h => by rw [cfE, cmp_lt] at h; exact h
  have h5 : (d.map dec).Pairwise fun p q => p.1 < q.1 := (h3.and h4).imp fun {p q} ⟨a, b⟩ => by
    rcases nm_tri p.1 q.1 with h | h | h
    · exact h
    · exact absurd h a
    · exact absurd h b
  rw [← h2, rising_one h5 (env_rising hl) fun p => (h1.mem_iff).trans (hm p)]
end Go.Proofs.YthfnkgofkdahfaaGreatDoor
