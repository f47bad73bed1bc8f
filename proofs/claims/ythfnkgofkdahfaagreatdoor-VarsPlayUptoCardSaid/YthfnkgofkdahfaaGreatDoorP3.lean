/-
  Plain: digits of numbers; what a parameter is.
-/
import Derived.Test.YthfnkgofkdahfaaGreatDoorP2
import Derived.Test.YthfnkgofkdahfaaGreatDoorK5
import Derived.Lib.Atoi
import Derived.Lib.ItoaMem
import Derived.Lib.Join
namespace Go.Proofs.YthfnkgofkdahfaaGreatDoor
open Go.RowKit

def valN (s : Nm) : Nat := s.foldl (fun v c => v * 10 + (c.toNat - 48)) 0
theorem val_snoc (r : Nm) (c : UInt8) : valN (r ++ [c]) = valN r * 10 + (c.toNat - 48) := by rw [valN, List.foldl_append]; rfl
theorem dig_nat {c : UInt8} (h : digB c = true) : 48 ≤ c.toNat ∧ c.toNat ≤ 57 := (digB_iff c).1 h
theorem ofNat_dig {c : UInt8} (h : digB c = true) : UInt8.ofNat (48 + (c.toNat - 48)) = c := by
  have := dig_nat h
  rw [show 48 + (c.toNat - 48) = c.toNat by omega]
  exact UInt8.ofNat_toNat
theorem val_dec (n : Nat) : valN (Lib.decDigits n) = n := by
  induction n using Nat.strongRecOn with
  | ind n ih =>
    rw [Lib.decDigits]
    split
    · rename_i h
      show 0 * 10 + ((UInt8.ofNat (48 + n)).toNat - 48) = n
      rw [UInt8.toNat_ofNat_of_lt' (by show 48 + n < 256; omega)]
      omega
    · rename_i h
      rw [val_snoc, ih (n / 10) (by omega), UInt8.toNat_ofNat_of_lt' (by show 48 + n % 10 < 256; omega)]
      omega
theorem dec_inj {a b : Nat} (h : Lib.decDigits a = Lib.decDigits b) : a = b := by rw [← val_dec a, h, val_dec]
theorem dec_val : ∀ (n : Nat) (s : Nm), s.length = n → (∀ c ∈ s, digB c = true) → s ≠ [] → s.getD 0 0 ≠ 48 → Lib.decDigits (valN s) = s ∧ 1 ≤ valN s
  | 0, s, h, _, hne, _ => absurd (List.length_eq_zero_iff.1 h) hne
  | n + 1, s, h, hd, hne, h0 => by
    rw [← List.dropLast_concat_getLast hne] at h hd h0 ⊢
    obtain ⟨r, hr⟩ : ∃ r, s.dropLast = r := ⟨_, rfl⟩
    obtain ⟨c, hc⟩ : ∃ c, s.getLast hne = c := ⟨_, rfl⟩
    rw [hr, hc] at h hd h0 ⊢
    have hdc := hd c (by simp)
    have hcn := dig_nat hdc
    rw [val_snoc]
    by_cases hr0 : r = []
    · subst hr0
      have hv : valN [] = 0 := rfl
      have hc48 : c.toNat ≠ 48 := fun e => h0 (by show c = 48; exact UInt8.toNat_inj.1 (by rw [e]; rfl))
      rw [hv, Nat.zero_mul, Nat.zero_add, Lib.decDigits, dif_pos (by omega), ofNat_dig hdc]
      exact ⟨rfl, by omega⟩
    · have hlr : r.length = n := by rw [List.length_append] at h; simpa using h
      have h0' : r.getD 0 0 ≠ 48 := by
        cases r with
        | nil => exact absurd rfl hr0
        | cons x r => simpa using h0
      obtain ⟨e1, e2⟩ := dec_val n r hlr (fun x hx => hd x (by simp [hx])) hr0 h0'
      have hlt : c.toNat - 48 < 10 := by omega
      rw [Lib.decDigits, dif_neg (by omega), show (valN r * 10 + (c.toNat - 48)) / 10 = valN r by omega, show (valN r * 10 + (c.toNat - 48)) % 10 = c.toNat - 48 by omega, e1, ofNat_dig hdc]
      exact ⟨rfl, by omega⟩
theorem digs_mem {s : Nm} (h : digsB s = true) : ∀ c ∈ s, digB c = true := by
  intro c hc
  obtain ⟨i, hi, e⟩ := List.getElem_of_mem hc
  rw [digsB, List.all_eq_true] at h
  have := h i (List.mem_range.2 hi)
  rwa [List.getD_eq_getElem?_getD, List.getElem?_eq_getElem hi, Option.getD_some, e] at this
/-- A number's text, but "0". -/
theorem num_split {s : Nm} (h : numB s = true) (h0 : s ≠ [48]) : (∀ c ∈ s, digB c = true) ∧ s ≠ [] ∧ s.getD 0 0 ≠ 48 ∧ s.length ≤ 4 := by
  simp only [numB, Bool.and_eq_true, Bool.or_eq_true, beq_iff_eq, Bool.not_eq_true', bne_iff_ne, decide_eq_true_eq] at h
  obtain ⟨h1, h2 | ⟨h2, h3, h4⟩⟩ := h
  · exact absurd h2 h0
  · exact ⟨digs_mem h1, fun e => by subst e; simp at h2, h3, h4⟩
theorem decFrom_digs : ∀ (s : Nm) (a : Nat), (∀ c ∈ s, digB c = true) → Lib.decFrom a s = some (s.foldl (fun v c => v * 10 + (c.toNat - 48)) a)
  | [], _, _ => rfl
  | c :: s, a, h => by
    have hc := dig_nat (h c (by simp))
    have hv : Lib.digitVal c = some (c.toNat - 48) := by
      unfold Lib.digitVal
      rw [if_pos hc]
    rw [Lib.decFrom, hv]
    exact decFrom_digs s _ fun x hx => h x (by simp [hx])
theorem atoi_digs {s : Nm} (h : ∀ c ∈ s, digB c = true) (hne : s ≠ []) : Lib.atoi s = some (valN s : Int) := by
  cases s with
  | nil => exact absurd rfl hne
  | cons c s =>
    have hc := dig_nat (h c (by simp))
    have h1 : (c == 45) = false := by simpa using fun e => by rw [e] at hc; exact absurd hc.1 (by decide)
    have h2 : (c == 43) = false := by simpa using fun e => by rw [e] at hc; exact absurd hc.1 (by decide)
    rw [Lib.atoi, h1, h2]
    simp only [Bool.false_eq_true, if_false]
    have h3 : Lib.decNat (c :: s) = some (valN (c :: s)) := by
      rw [Lib.decNat]
      simp only [List.isEmpty_cons, Bool.false_eq_true, if_false]
      exact decFrom_digs _ _ h
    rw [h3]
    rfl
theorem name_not_digs {s : Nm} (h : nameL s = true) : ∀ c r, s = c :: r → digB c = false := by
  intro c r e
  subst e
  have h1 : nmB true c = true := by
    simp only [nameL, Bool.and_eq_true] at h
    have := List.all_eq_true.1 h.2 0 (List.mem_range.2 (by simp))
    simpa using this
  rw [nmB_iff] at h1
  cases hd : digB c with
  | false => rfl
  | true =>
    have := dig_nat hd
    rcases h1 with (h1 | h1) | h1 | ⟨h1, _⟩
    · omega
    · omega
    · omega
    · cases h1

def shN : Nm := [115, 104]
/-- What a parameter is. -/
def paramL (l : List (Nm × Xd)) (xs : List Nm) (st : Int) (s : Nm) : Nm × Bool :=
  if s = [48] then (shN, true) else if s = [35] then (Lib.decDigits xs.length, true) else if s = [63] then (Lib.itoa st, true) else if s = [36] then ([49], true)
  else if s = [45] then ([], true) else if s = [33] then ([], false) else if s = [64] ∨ s = [42] then (Lib.join xs [32], decide (0 < xs.length))
  else if numB s then (if valN s ≤ xs.length then (xs.getD (valN s - 1) [], true) else ([], false))
  else ((find l s).text, (find l s).set)
def OkP (s : Nm) : Prop := nameL s = true ∨ numB s = true ∨ specB s = true
/-- None of the signs, and not "0". -/
def Plain (s : Nm) : Prop := s ≠ [48] ∧ s ≠ [35] ∧ s ≠ [63] ∧ s ≠ [36] ∧ s ≠ [45] ∧ s ≠ [33] ∧ s ≠ [64] ∧ s ≠ [42]
theorem param_plain {l : List (Nm × Xd)} {xs : List Nm} {st : Int} {s : Nm} (h : Plain s) : paramL l xs st s = if numB s then (if valN s ≤ xs.length then (xs.getD (valN s - 1) [], true) else ([], false)) else ((find l s).text, (find l s).set) := by
  obtain ⟨h1, h2, h3, h4, h5, h6, h7, h8⟩ := h
  simp only [paramL, h1, h2, h3, h4, h5, h6, h7, h8, if_false, or_false]
theorem spec_signs {s : Nm} (h : specB s = true) : ¬ Plain s := by
  simp only [specB, Bool.and_eq_true, decide_eq_true_eq] at h
  obtain ⟨h1, h2⟩ := h
  match s, h1 with
  | [c], _ =>
    rw [hasB_mem] at h2
    have h3 : c ∈ [(64 : UInt8), 42, 35, 63, 45, 36, 33] := h2
    intro hp
    obtain ⟨_, p2, p3, p4, p5, p6, p7, p8⟩ := hp
    simp only [List.mem_cons, List.not_mem_nil, or_false] at h3
    rcases h3 with rfl | rfl | rfl | rfl | rfl | rfl | rfl
    · exact p7 rfl
    · exact p8 rfl
    · exact p2 rfl
    · exact p3 rfl
    · exact p5 rfl
    · exact p4 rfl
    · exact p6 rfl
theorem dec_head (n : Nat) : ∃ c r, Lib.decDigits n = c :: r ∧ digB c = true := by
  induction n using Nat.strongRecOn with
  | ind n ih =>
    rw [Lib.decDigits]
    split
    · rename_i h
      exact ⟨_, [], rfl, (digB_iff _).2 (by rw [UInt8.toNat_ofNat_of_lt' (by show 48 + n < 256; omega)]; omega)⟩
    · rename_i h
      obtain ⟨c, r, e, hc⟩ := ih (n / 10) (by omega)
      exact ⟨c, r ++ [UInt8.ofNat (48 + n % 10)], by rw [e]; rfl, hc⟩
/-- The document's search among the parameters: a hit. -/
theorem param_hit {l : List (Nm × Xd)} {xs : List Nm} {st : Int} {s : Nm} (hp : Plain s) (ho : OkP s) {k : Nat} (hk : k < xs.length) (h : s = Lib.decDigits (k + 1)) : paramL l xs st s = (xs.getD k [], true) := by
  obtain ⟨c, r, e, hc⟩ := dec_head (k + 1)
  have hn : numB s = true := by
    rcases ho with ho | ho | ho
    · have := name_not_digs ho c r (h.trans e)
      rw [hc] at this
      cases this
    · exact ho
    · exact absurd hp (spec_signs ho)
  have hv : valN s = k + 1 := by rw [h, val_dec]
  rw [param_plain hp, if_pos hn, if_pos (by omega), hv]
  rfl
/-- No hit. -/
theorem param_miss {l : List (Nm × Xd)} (hg : Good l) {xs : List Nm} {st : Int} {s : Nm} (hp : Plain s) (h : ∀ k, k < xs.length → s ≠ Lib.decDigits (k + 1)) : paramL l xs st s = ((find l s).text, (find l s).set) := by
  rw [param_plain hp]
  by_cases hn : numB s = true
  · obtain ⟨q1, q2, q3, q4⟩ := num_split hn hp.1
    obtain ⟨e1, e2⟩ := dec_val _ s rfl q1 q2 q3
    have hlt : ¬ valN s ≤ xs.length := fun hle => h (valN s - 1) (by omega) (by rw [show valN s - 1 + 1 = valN s by omega]; exact e1.symm)
    rw [if_pos hn, if_neg hlt]
    have hf : find l s = d0 := find_none l s fun p hpm e => by
      have h1 := (hg p hpm).1
      rw [e] at h1
      cases s with
      | nil => exact q2 rfl
      | cons c r =>
        have := name_not_digs h1 c r rfl
        rw [q1 c (by simp)] at this
        cases this
    rw [hf]
    rfl
  · rw [if_neg hn]
end Go.Proofs.YthfnkgofkdahfaaGreatDoor
