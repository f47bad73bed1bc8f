/-
  The document's example of fields; quoted texts: the walk of FieldQuotes.
-/
import Derived.Test.YtlehofcgkmhgaaaF8
import Derived.Lib.QuietBelow
namespace Go.Proofs.Ytlehofcgkmhgaaa
open Go.RowKit

/-! ### what fits -/
theorem textL_put (l : List Pc) (t : ByteArray) (q : Bool) : (textL (putN l t q)).length = (textL l).length + t.size := by
  rcases snoc_or l with rfl | ⟨m, p, rfl⟩
  · rw [putN_nil]; simp [textL, L_size]
  · by_cases h : p.q = q
    · rw [putN_same _ _ _ _ h]; simp [textL, L_append, L_size]; omega
    · rw [putN_other _ _ _ _ h]; simp [textL, L_size]; omega
theorem text_mem {l : List Pc} {p : Pc} (h : p ∈ l) : p.t.size ≤ (textL l).length := by
  obtain ⟨a, b, rfl⟩ := List.append_of_mem h
  simp [textL, L_size]; omega
theorem text_stepB (ifs : List UInt8) (s : St) (c : UInt8) : (textL (stepB ifs s c).now).length ≤ (textL s.now).length + 1 := by
  unfold stepB
  split
  · split
    · split
      · simp [textL]
      · omega
    · split
      · simp
      · simp [endS, textL]
  · show (textL (putN s.now (S [c]) false)).length ≤ _
    rw [textL_put]; exact Nat.le_refl _
theorem text_fold (ifs : List UInt8) : ∀ (t : List UInt8) (s : St), (textL (t.foldl (stepB ifs) s).now).length ≤ (textL s.now).length + t.length
  | [], _ => Nat.le_refl _
  | c :: t, s => by
    have h1 := text_fold ifs t (stepB ifs s c)
    have h2 := text_stepB ifs s c
    rw [List.foldl_cons, List.length_cons]; omega
theorem text_piece (ifs : List UInt8) (s : St) (p : In) : (textL (stepP ifs s p).now).length ≤ (textL s.now).length + p.t.size := by
  unfold stepP
  split
  · simp [textL]
  · split
    · exact Nat.le_of_eq (textL_put _ _ _)
    · split
      · exact text_fold ifs (L p.t) s
      · split
        · omega
        · exact Nat.le_of_eq (textL_put _ _ _)
theorem text_pieces (ifs : List UInt8) : ∀ (l : List In) (s : St), (textL (l.foldl (stepP ifs) s).now).length ≤ (textL s.now).length + (l.map (·.t.size)).sum
  | [], _ => by simp
  | p :: l, s => by
    have h1 := text_pieces ifs l (stepP ifs s p)
    have h2 := text_piece ifs s p
    rw [List.foldl_cons, List.map_cons, List.sum_cons]; omega
theorem sum_mem (f : In → Nat) {l : List In} {x : In} (h : x ∈ l) : f x ≤ (l.map f).sum := by
  obtain ⟨a, b, rfl⟩ := List.append_of_mem h
  simp; omega
theorem FitL.small {ifs : List UInt8} {l : List In} (h1 : (l.map (·.t.size)).sum ≤ 400000) (h2 : l.length ≤ 400000) : FitL ifs l := by
  refine ⟨fun k x hx _ p hp => ?_, ?_⟩
  · have h3 := text_pieces ifs (l.take k) St0
    have h4 := text_mem hp
    have h5 := sum_take (·.t.size) l k
    have h6 : x.t.size ≤ (l.map (·.t.size)).sum := sum_mem (·.t.size) (List.mem_of_getElem? hx)
    have h7 : (textL St0.now).length = 0 := rfl
    unfold stK at h4
    omega
  · have key : ∀ l : List In, (l.map wt).sum ≤ l.length + (l.map (·.t.size)).sum := by
      intro l
      induction l with
      | nil => simp
      | cons x l ih =>
        have : wt x ≤ 1 + x.t.size := by unfold wt; split <;> omega
        simp only [List.map_cons, List.sum_cons, List.length_cons]; omega
    have := key l
    omega
theorem quotes_now (ifs : List UInt8) : ∀ (l : List ByteArray) (s : St) (k : Nat) (x : In), (l.flatMap fun s => [(⟨⟨#[]⟩, false, false, true⟩ : In), ⟨s, true, false, false⟩])[k]? = some x → x.b = false → (((l.flatMap fun s => [(⟨⟨#[]⟩, false, false, true⟩ : In), ⟨s, true, false, false⟩]).take k).foldl (stepP ifs) s).now = []
  | [], s, k, x, h, _ => by simp at h
  | t :: l, s, 0, x, h, hb => by
    rw [List.flatMap_cons] at h
    simp at h
    subst h
    cases hb
  | t :: l, s, 1, x, h, hb => rfl
  | t :: l, s, k + 2, x, h, hb => by
    rw [List.flatMap_cons] at h ⊢
    exact quotes_now ifs l _ k x (by simpa using h) hb
theorem FitL.quotes (ifs : List UInt8) (l : List ByteArray) (hl : l.length ≤ 1000) (hm : ∀ s ∈ l, s.size ≤ 9223372036854775807) : FitL ifs (qPieces l) := by
  refine ⟨fun k x hx hb p hp => ?_, by have := (qPieces_wt l).1; omega⟩
  have : (stK ifs (qPieces l) k).now = [] := by
    cases l with
    | nil => simp [qPieces] at hx
    | cons s l =>
      cases k with
      | zero => rfl
      | succ k => exact quotes_now ifs l _ k x (by simpa [qPieces] using hx) hb
  rw [this] at hp
  simp at hp

/-! ### the document's example -/
def anchorIn : List In := [⟨⟨#[97]⟩, false, false, false⟩, ⟨⟨#[98, 58, 99]⟩, false, true, false⟩, ⟨⟨#[100]⟩, true, false, false⟩]
theorem anchor_out : splitF (L ⟨#[58]⟩) anchorIn = [[⟨⟨#[97, 98]⟩, false⟩], [⟨⟨#[99]⟩, false⟩, ⟨⟨#[100]⟩, true⟩]] := by kernel_rfl
/-- A field's text, in every later world. -/
abbrev TextAt (W1 : World) (v : Value) (s : ByteArray) : Prop := ∀ W, Below W1.heap.size W1 W → Calls Try.prog 8 #[v] W fun e w' => e = .returned (.string s) ∧ Below W.heap.size W w'
theorem text_at {W1 : World} {B : Nat} {v : Value} {f : List Pc} (h : W1.ownsRow B 45 2 v f.length (f.flatMap pcC)) (s : ByteArray) (hs : S (textL f) = s) (hz : (textL f).length ≤ 140737488355328) : Hid (TextAt W1 v s) := Lib.hid fun W hW => by
  rw [← hs]
  exact text_any f v W (Sl.of_own (own_below h hW)) hz

set_option maxHeartbeats 1000000 in
theorem anchor_any (w : World) : Calls Try.prog 6 #[] w fun e w' => e = .returned (.bool true) ∧ Below w.heap.size w w' := by
  have C : Hid (∀ (W : World) (g : Nat), g = W.heap.size → Calls Try.prog 7 #[.slice (some ⟨g, 0, none⟩) 3 3, .string ⟨#[58]⟩] (W.alloc (.cells #[.string ⟨#[97]⟩, .bool false, .bool false, .bool false, .string ⟨#[98, 58, 99]⟩, .bool false, .bool true, .bool false, .string ⟨#[100]⟩, .bool true, .bool false, .bool false] 26))
      (SplitPost [[⟨⟨#[97, 98]⟩, false⟩], [⟨⟨#[99]⟩, false⟩, ⟨⟨#[100]⟩, true⟩]] (W.alloc (.cells #[.string ⟨#[97]⟩, .bool false, .bool false, .bool false, .string ⟨#[98, 58, 99]⟩, .bool false, .bool true, .bool false, .string ⟨#[100]⟩, .bool true, .bool false, .bool false] 26)))) := Lib.hid fun W g hg => by
    rw [← anchor_out]
    exact Split_any ⟨#[58]⟩ anchorIn _ _ (sl_made_at W _ _ 3 4 rfl (by unfold maxLen; omega) hg) (by decide) (FitL.small (by decide) (by decide))
  go_enter Try.func6, Try.ntmps6
  go_wp2_with fail
  refine (C.out _ _ rfl).mono ?_
  rintro e w1 ⟨hb1, v, rfl, ho⟩
  obtain ⟨va, vc, rfl⟩ := ho.shape
  obtain ⟨b0, o0, x0, i0, hl0, c0, r0⟩ := ho.field (k := 0) rfl 0 rfl
  obtain ⟨b1, o1, x1, i1, hl1, c1, r1⟩ := ho.field (k := 1) rfl 1 rfl
  have T0 := text_at r0 ⟨#[97, 98]⟩ (by kernel_rfl) (by decide)
  have T1 := text_at r1 ⟨#[99, 100]⟩ (by kernel_rfl) (by decide)
  have HB1 := Lib.hid ((Below.alloc (Below.refl _ _) (Nat.le_refl _) _).trans (hb1.mono (by simp)))
  clear hb1 ho r0 r1
  simp only [List.length_cons, List.length_nil] at i0 i1
  go_wp2_with fail
  refine (T0.out _ (Below.refl _ _)).mono ?_
  rintro e w2 ⟨rfl, hb2⟩
  have c1' := (hb2.cell (p := ⟨b1, o1, none⟩) hl1).trans c1
  have HB2 := Lib.hid hb2
  clear hb2 c0 c1
  go_wp2_with fail
  refine (T1.out _ HB2.out).mono ?_
  rintro e w3 ⟨rfl, hb3⟩
  have HB3 := Lib.hid (HB2.out.trans (hb3.mono HB2.out.size))
  clear hb3
  go_wp2_with fail
  go_ret
  exact ⟨rfl, HB1.out.trans (HB3.out.mono HB1.out.size)⟩
end Go.Proofs.Ytlehofcgkmhgaaa
