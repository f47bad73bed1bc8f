/-
  The plain law: a line of which the letters within five are changed is read as bytes that differ within thirty bits, or not at all.
-/
import Derived.Test.YtjnknckbdfgjlaaU12
namespace Go.Proofs.Ytjnknckbdfgjlaa
open Go.RowKit

/-- The i-th bit of bytes. -/
def bitOf (l : List UInt8) (i : Nat) : Nat := (l.getD (i / 8) 0).toNat / 2 ^ (7 - i % 8) % 2

theorem tri_bit (a b c d : UInt8) (r : Nat) (h : r < 24) : ((tri a b c d).getD (r / 8) 0).toNat / 2 ^ (7 - r % 8) % 2 = sixV ([a, b, c, d].getD (r / 6) 0) / 2 ^ (5 - r % 6) % 2 := by
  have ha := sixV_lt a
  have hb := sixV_lt b
  have hc := sixV_lt c
  have hd := sixV_lt d
  obtain ⟨V, hV⟩ : ∃ V, V = ((sixV a * 64 + sixV b) * 64 + sixV c) * 64 + sixV d := ⟨_, rfl⟩
  have ht : tri a b c d = [UInt8.ofNat (V / 65536), UInt8.ofNat (V / 256 % 256), UInt8.ofNat (V % 256)] := by rw [tri, ← hV]
  have h0 : (UInt8.ofNat (V / 65536)).toNat = V / 65536 := by simp; omega
  have h1 : (UInt8.ofNat (V / 256 % 256)).toNat = V / 256 % 256 := by simp
  have h2 : (UInt8.ofNat (V % 256)).toNat = V % 256 := by simp
  rw [ht]
  match r, h with
  | 0, _ => show (UInt8.ofNat (V / 65536)).toNat / 128 % 2 = sixV a / 32 % 2; rw [h0]; omega
  | 1, _ => show (UInt8.ofNat (V / 65536)).toNat / 64 % 2 = sixV a / 16 % 2; rw [h0]; omega
  | 2, _ => show (UInt8.ofNat (V / 65536)).toNat / 32 % 2 = sixV a / 8 % 2; rw [h0]; omega
  | 3, _ => show (UInt8.ofNat (V / 65536)).toNat / 16 % 2 = sixV a / 4 % 2; rw [h0]; omega
  | 4, _ => show (UInt8.ofNat (V / 65536)).toNat / 8 % 2 = sixV a / 2 % 2; rw [h0]; omega
  | 5, _ => show (UInt8.ofNat (V / 65536)).toNat / 4 % 2 = sixV a / 1 % 2; rw [h0]; omega
  | 6, _ => show (UInt8.ofNat (V / 65536)).toNat / 2 % 2 = sixV b / 32 % 2; rw [h0]; omega
  | 7, _ => show (UInt8.ofNat (V / 65536)).toNat / 1 % 2 = sixV b / 16 % 2; rw [h0]; omega
  | 8, _ => show (UInt8.ofNat (V / 256 % 256)).toNat / 128 % 2 = sixV b / 8 % 2; rw [h1]; omega
  | 9, _ => show (UInt8.ofNat (V / 256 % 256)).toNat / 64 % 2 = sixV b / 4 % 2; rw [h1]; omega
  | 10, _ => show (UInt8.ofNat (V / 256 % 256)).toNat / 32 % 2 = sixV b / 2 % 2; rw [h1]; omega
  | 11, _ => show (UInt8.ofNat (V / 256 % 256)).toNat / 16 % 2 = sixV b / 1 % 2; rw [h1]; omega
  | 12, _ => show (UInt8.ofNat (V / 256 % 256)).toNat / 8 % 2 = sixV c / 32 % 2; rw [h1]; omega
  | 13, _ => show (UInt8.ofNat (V / 256 % 256)).toNat / 4 % 2 = sixV c / 16 % 2; rw [h1]; omega
  | 14, _ => show (UInt8.ofNat (V / 256 % 256)).toNat / 2 % 2 = sixV c / 8 % 2; rw [h1]; omega
  | 15, _ => show (UInt8.ofNat (V / 256 % 256)).toNat / 1 % 2 = sixV c / 4 % 2; rw [h1]; omega
  | 16, _ => show (UInt8.ofNat (V % 256)).toNat / 128 % 2 = sixV c / 2 % 2; rw [h2]; omega
  | 17, _ => show (UInt8.ofNat (V % 256)).toNat / 64 % 2 = sixV c / 1 % 2; rw [h2]; omega
  | 18, _ => show (UInt8.ofNat (V % 256)).toNat / 32 % 2 = sixV d / 32 % 2; rw [h2]; omega
  | 19, _ => show (UInt8.ofNat (V % 256)).toNat / 16 % 2 = sixV d / 16 % 2; rw [h2]; omega
  | 20, _ => show (UInt8.ofNat (V % 256)).toNat / 8 % 2 = sixV d / 8 % 2; rw [h2]; omega
  | 21, _ => show (UInt8.ofNat (V % 256)).toNat / 4 % 2 = sixV d / 4 % 2; rw [h2]; omega
  | 22, _ => show (UInt8.ofNat (V % 256)).toNat / 2 % 2 = sixV d / 2 % 2; rw [h2]; omega
  | 23, _ => show (UInt8.ofNat (V % 256)).toNat / 1 % 2 = sixV d / 1 % 2; rw [h2]; omega
  | n + 24, h => omega

theorem decTo_bit {l : List UInt8} : ∀ {K : Nat} {o : List UInt8}, decTo l K = some o → ∀ i, i < 24 * K → bitOf o i = sixV (l.getD (i / 6 + 1) 0) / 2 ^ (5 - i % 6) % 2 := by
  intro K
  induction K with
  | zero => intro o _ i hi; omega
  | succ g ih =>
    intro o h i hi
    rw [decTo] at h
    cases ho : decTo l g with
    | none => rw [ho] at h; cases h
    | some p =>
      rw [ho] at h
      simp only [Option.bind_some, Option.map_eq_some_iff] at h
      obtain ⟨t, ht, rfl⟩ := h
      have hp := decTo_len ho
      by_cases hlt : i < 24 * g
      · rw [← ih ho i hlt, bitOf, bitOf]
        congr 3
        simp only [List.getD]
        rw [List.getElem?_append_left (by omega)]
      · obtain ⟨r, rfl⟩ : ∃ r, i = 24 * g + r := ⟨i - 24 * g, by omega⟩
        have hr : r < 24 := by omega
        unfold decG at ht
        split at ht
        · simp only [Option.some.injEq] at ht
          subst ht
          have hb := tri_bit (l.getD (4 * g + 1) 0) (l.getD (4 * g + 2) 0) (l.getD (4 * g + 3) 0) (l.getD (4 * g + 4) 0) r hr
          have e1 : (24 * g + r) / 8 = 3 * g + r / 8 := by omega
          have e2 : (24 * g + r) % 8 = r % 8 := by omega
          have e3 : (24 * g + r) / 6 + 1 = 4 * g + r / 6 + 1 := by omega
          have e4 : (24 * g + r) % 6 = r % 6 := by omega
          have e5 : [l.getD (4 * g + 1) 0, l.getD (4 * g + 2) 0, l.getD (4 * g + 3) 0, l.getD (4 * g + 4) 0].getD (r / 6) 0 = l.getD (4 * g + r / 6 + 1) 0 := by
            rcases (by omega : r / 6 = 0 ∨ r / 6 = 1 ∨ r / 6 = 2 ∨ r / 6 = 3) with e | e | e | e <;> rw [e] <;> rfl
          rw [e5] at hb
          rw [bitOf, e1, e2, e3, e4, ← hb]
          congr 3
          simp only [List.getD]
          rw [List.getElem?_append_right (by omega), hp, Nat.add_sub_cancel_left]
        · cases ht

/-- What is read of a line l' in place of the line of l, and what is told of it. -/
theorem burst_line (l body : List UInt8) (a b : Nat) (hl : 6 ≤ l.length ∧ l.length ≤ 45) (hlen : body.length = 4 * ((l.length + 2) / 3)) (hab : b ≤ a + 4)
    (hsame : ∀ j, (j + 1 < a ∨ b < j + 1) → body[j]? = (bodyTo l ((l.length + 2) / 3))[j]?) :
    decLoop (letterL l.length :: body ++ 10 :: [96, 10, 101, 110, 100, 10]) = none ∨ ∃ d, decLoop (letterL l.length :: body ++ 10 :: [96, 10, 101, 110, 100, 10]) = some d ∧ d.length = l.length ∧
      ∀ i, i < 8 * l.length → bitOf d i ≠ bitOf l i → 6 * (a - 1) ≤ i ∧ i ≤ 6 * (a - 1) + 29 := by
  obtain ⟨K, hK⟩ : ∃ K, K = (l.length + 2) / 3 := ⟨_, rfl⟩
  rw [← hK] at hlen hsame
  have hx := letter_ne l.length (by omega)
  have hsx := sixV_letter l.length (by omega)
  by_cases h10 : (10 : UInt8) ∈ body
  · left
    have hm : (10 : UInt8) ∈ letterL l.length :: body ++ 10 :: [96, 10, 101, 110, 100, 10] := by simp
    have e : letterL l.length :: body ++ 10 :: [96, 10, 101, 110, 100, 10] = (letterL l.length :: lineOf body) ++ 10 :: (after body ++ 10 :: [96, 10, 101, 110, 100, 10]) := by
      conv => lhs; rw [line_after h10]
      simp
    have hno : (10 : UInt8) ∉ letterL l.length :: lineOf body := by
      intro h
      rcases List.mem_cons.1 h with h | h
      · exact hx h.symm
      · exact lineOf_no _ h
    have hlt : (lineOf body).length < body.length := by
      have := congrArg List.length (line_after h10)
      simp at this; omega
    obtain ⟨h1, h2, h3⟩ := lineOf_app (r := after body ++ 10 :: [96, 10, 101, 110, 100, 10]) hno
    have hb : bytesP (letterL l.length :: lineOf body) = none := by
      rw [bytesP, List.getD_cons_zero, hsx, ← hK, if_neg]
      intro h
      have := h.2.2.2
      rw [List.length_cons] at this
      omega
    rw [e, decLoop_yes h3, h1, hb]
  · have hno : (10 : UInt8) ∉ letterL l.length :: body := by
      intro h
      rcases List.mem_cons.1 h with h | h
      · exact hx h.symm
      · exact h10 h
    obtain ⟨h1, h2, h3⟩ := lineOf_app (r := [96, 10, 101, 110, 100, 10]) hno
    have htail : decLoop [96, 10, 101, 110, 100, 10] = some [] := by
      have := decLoop_rest 0 [] (Nat.le_refl _)
      rwa [restL_nil] at this
    rw [decLoop_yes h3, h1, h2]
    cases hb : bytesP (letterL l.length :: body) with
    | none => exact .inl rfl
    | some d =>
      right
      rw [bytesP, List.getD_cons_zero, hsx, ← hK] at hb
      split at hb
      · obtain ⟨o, ho, hd⟩ := Option.map_eq_some_iff.1 hb
        have hol := decTo_len ho
        have hdl : d.length = l.length := by rw [← hd, List.length_take]; omega
        have hne : d ≠ [] := by intro h; rw [h] at hdl; simp at hdl; omega
        refine ⟨d, by simp [hne, htail], hdl, fun i hi hbit => ?_⟩
        have e1 : bitOf d i = bitOf o i := by
          rw [bitOf, bitOf, ← hd]
          congr 3
          simp only [List.getD]
          rw [List.getElem?_take_of_lt (by omega)]
        have e2 : bitOf l i = bitOf (tripTo l K) i := by
          rw [bitOf, bitOf, tripTo_get l K _ (by omega)]
        have e3 := decTo_bit ho i (by omega)
        have e4 := decTo_bit (decTo_body l (letterL l.length) K K (Nat.le_refl _)) i (by omega)
        rw [List.getD_cons_succ] at e3 e4
        rw [e1, e2, e3, e4] at hbit
        by_cases hw : i / 6 + 1 < a ∨ b < i / 6 + 1
        · exfalso
          apply hbit
          simp only [List.getD]
          rw [hsame _ hw]
        · omega
      · cases hb

theorem line_shape {l bl : List UInt8} {K a b : Nat} (hK : K = (l.length + 2) / 3) (hlen : bl.length = 4 * K + 2) (ha : 1 ≤ a) (hb : b ≤ 4 * K) (hs : ∀ i, (i < a ∨ b < i) → bl[i]? = (lineL l)[i]?) :
    ∃ body, bl = letterL l.length :: body ++ [10] ∧ body.length = 4 * K ∧ ∀ j, (j + 1 < a ∨ b < j + 1) → body[j]? = (bodyTo l K)[j]? := by
  have hbl := bodyTo_len l K
  have hll : lineL l = letterL l.length :: (bodyTo l K ++ [10]) := by rw [lineL, ← hK]; rfl
  refine ⟨(bl.drop 1).take (4 * K), ?_, by simp; omega, fun j hj => ?_⟩
  · apply List.ext_getElem?
    intro i
    match i with
    | 0 => rw [hs 0 (by omega), hll]; rfl
    | i + 1 =>
      rw [List.cons_append, List.getElem?_cons_succ]
      by_cases h1 : i < 4 * K
      · rw [List.getElem?_append_left (by simp; omega), List.getElem?_take_of_lt h1, List.getElem?_drop, Nat.add_comm]
      · rw [List.getElem?_append_right (by simp; omega), hs (i + 1) (by omega), hll, List.getElem?_cons_succ, List.getElem?_append_right (by omega), hbl]
        congr 1
        simp; omega
  · by_cases h1 : j < 4 * K
    · rw [List.getElem?_take_of_lt h1, List.getElem?_drop, Nat.add_comm, hs (j + 1) (by omega), hll, List.getElem?_cons_succ, List.getElem?_append_left (by omega)]
    · rw [List.getElem?_eq_none (by simp; omega), List.getElem?_eq_none (by omega)]

theorem decodeP_pre (m : Nat) (name r : List UInt8) (hn : nameB name = true) : decodeP (headL m name ++ r) = (decLoop r).map fun d => (m % 512, name, d) := by
  simp only [nameB, Bool.and_eq_true, Bool.not_eq_true'] at hn
  have hno := head_no10 m name hn.2
  have hlen : 0 < (headL m name).length := by simp [headL]
  obtain ⟨a, ha⟩ : ∃ a, headL m name = a ++ [10] := ⟨_, rfl⟩
  have hal : (headL m name).length - 1 = a.length := by rw [ha]; simp
  have hat : (headL m name).take ((headL m name).length - 1) = a := by rw [hal, ha, List.take_left]
  have h10 : (10 : UInt8) ∉ a := by
    intro hm
    obtain ⟨j, hj, e⟩ := List.getElem_of_mem hm
    refine hno j (by omega) ?_
    rw [ha, List.getD, List.getElem?_append_left hj, List.getElem?_eq_getElem hj, e]; rfl
  obtain ⟨h1, h2, h3⟩ := lineOf_app (r := r) h10
  rw [ha, List.append_assoc, List.singleton_append, decodeP, if_pos h3, h1, h2, ← hat, headP_head m name hn.1]
  rfl

/-- What Decode says of a line that is changed within five letters. -/
theorem burst_all {l bl : List UInt8} {K a b : Nat} (hl : 6 ≤ l.length ∧ l.length ≤ 45) (hK : K = (l.length + 2) / 3) (hlen : bl.length = 4 * K + 2) (ha : 1 ≤ a) (hb : b ≤ 4 * K) (hab : b ≤ a + 4) (hs : ∀ i, (i < a ∨ b < i) → bl[i]? = (lineL l)[i]?) :
    decodeP ([98, 101, 103, 105, 110, 32, 54, 52, 52, 32, 120, 10] ++ bl ++ [96, 10, 101, 110, 100, 10]) = none ∨
      ∃ d, decodeP ([98, 101, 103, 105, 110, 32, 54, 52, 52, 32, 120, 10] ++ bl ++ [96, 10, 101, 110, 100, 10]) = some (420, [120], d) ∧ d.length = l.length ∧ ∀ i, i < 8 * l.length → bitOf d i ≠ bitOf l i → 6 * (a - 1) ≤ i ∧ i ≤ 6 * (a - 1) + 29 := by
  obtain ⟨body, h1, h2, h3⟩ := line_shape hK hlen ha hb hs
  subst hK
  have e : [98, 101, 103, 105, 110, 32, 54, 52, 52, 32, 120, 10] ++ bl ++ [96, 10, 101, 110, 100, 10] = headL 420 [120] ++ (letterL l.length :: body ++ 10 :: [96, 10, 101, 110, 100, 10]) := by
    rw [h1, List.append_assoc]
    congr 1
    simp
  rw [e, decodeP_pre 420 [120] _ (by decide)]
  rcases burst_line l body a b hl h2 hab h3 with h | ⟨d, h, hd1, hd2⟩
  · exact .inl (by rw [h]; rfl)
  · exact .inr ⟨d, by rw [h]; rfl, hd1, hd2⟩
end Go.Proofs.Ytjnknckbdfgjlaa
