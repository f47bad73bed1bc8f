/-
  The document's example of patterns: the walk of anchor; quoted texts: the plain law and the walk of PatQuotes.
-/
import Derived.Test.YtiacoomeakodnaaG11
namespace Go.Proofs.Ytiacoomeakodnaa
open Go.RowKit

def anchorText : List UInt8 := [91, 33, 97, 45, 99, 93, 42, 46, 91, 91, 58, 100, 105, 103, 105, 116, 58, 93, 93]
def anchorPat : List Pt := [⟨91, 0, true, [(97, 99)]⟩, ⟨42, 0, false, []⟩, ⟨98, 46, false, []⟩, ⟨91, 0, false, [(48, 57)]⟩]
theorem anchor_comp : comp (signsP ⟨⟨#[91, 33, 97, 45, 99, 93, 42, 46, 91, 91, 58, 100, 105, 103, 105, 116, 58, 93, 93]⟩, false⟩) = anchorPat := by kernel_rfl
theorem anchor_yes : matchP anchorPat (L ⟨#[120, 46, 49]⟩) = true := by kernel_rfl
theorem anchor_no : matchP anchorPat (L ⟨#[98, 46, 49]⟩) = false := by kernel_rfl

theorem anchor_any (w : World) : Calls Try.prog 8 #[] w fun e w' => e = .returned (.bool true) ∧ Below w.heap.size w w' := by
  have CP : Hid (∀ W, Calls Try.prog 9 #[.string ⟨#[91, 33, 97, 45, 99, 93, 42, 46, 91, 91, 58, 100, 105, 103, 105, 116, 58, 93, 93]⟩] W (CompPost anchorPat W)) := Lib.hid fun W => by
    rw [← anchor_comp]; exact plain_any _ W (by decide)
  go_enter Try.func8, Try.ntmps8
  go_wp2_with fail
  refine (CP.out _).mono ?_
  rintro e w1 ⟨hb, v, rfl, hp⟩
  obtain ⟨va, vn, vc, rfl⟩ := hp.shape
  have hP := hp.at_
  have HB := Lib.hid hb
  have CM : Hid (∀ W, Below w1.heap.size w1 W → ∀ s, s.size ≤ 100000 → Calls Try.prog 10 #[.agg #[.slice va vn vc], .string s] W fun e w' => e = .returned (.bool (matchP anchorPat (L s))) ∧ Below W.heap.size W w') := Lib.hid fun W hW s hs => match_any _ _ s W ((hP.below hW).mono hW.size) (by decide) hs
  have C1 := Lib.hid fun W hW => (CM.out W hW ⟨#[120, 46, 49]⟩ (by decide)).mono fun e w' h => by rw [anchor_yes] at h; exact h
  have C2 := Lib.hid fun W hW => (CM.out W hW ⟨#[98, 46, 49]⟩ (by decide)).mono fun e w' h => by rw [anchor_no] at h; exact h
  clear CM hP hp hb
  go_wp2_with fail
  refine (C1.out _ (Below.alloc (Below.refl _ _) (Nat.le_refl _) _)).mono ?_
  rintro e w2 ⟨rfl, hb2⟩
  have hb3 := (Below.alloc (Below.refl w1.heap.size w1) (Nat.le_refl _) (.cells #[.slice va vn vc] 26)).trans (hb2.mono (by simp))
  have z := ((Blk.new w1 26 #[.slice va vn vc]).below hb2 (by simp)).cell 0
  simp at z
  have HB3 := Lib.hid hb3
  clear hb2 hb3
  go_wp2_with fail
  refine (C2.out _ HB3.out).mono ?_
  rintro e w3 ⟨rfl, hb4⟩
  have HB4 := Lib.hid hb4
  clear hb4
  go_wp2_with fail
  go_ret
  exact ⟨rfl, HB.out.trans ((HB3.out.trans (HB4.out.mono HB3.out.size)).mono HB.out.size)⟩

/-! ### quoted texts -/
def bytesP (l : List UInt8) : List Pt := l.map fun b => ⟨98, b, false, []⟩
theorem comp_quoted (l : List UInt8) (t : List Sg) : comp ((l.map fun b => ⟨b, true⟩) ++ t) = bytesP l ++ comp t := by
  induction l with
  | nil => rfl
  | cons b l ih =>
    rw [List.map_cons, List.cons_append, comp_byte rfl (fun h => by cases h), ih]; rfl
theorem matchP_bytes (m : List Pt) : ∀ (l s : List UInt8), matchP (bytesP l ++ m) s = (l.isPrefixOf s && matchP m (s.drop l.length))
  | [], s => by simp [bytesP]
  | b :: l, [] => by
    show matchP (⟨98, b, false, []⟩ :: (bytesP l ++ m)) [] = _
    rw [matchP_end (p := ⟨98, b, false, []⟩) (fun h => by cases h)]; rfl
  | b :: l, c :: s => by
    show matchP (⟨98, b, false, []⟩ :: (bytesP l ++ m)) (c :: s) = _
    rw [matchP_cons (p := ⟨98, b, false, []⟩) (fun h => by cases h), matchP_bytes m l s, ← Bool.and_assoc]; rfl
theorem match_quoted (l s : List UInt8) : matchP (bytesP l) s = (s == l) := by
  have h := matchP_bytes [] l s
  rw [List.append_nil] at h
  rw [h, Bool.eq_iff_iff, Bool.and_eq_true, matchP_nil, List.isPrefixOf_iff_prefix, beq_iff_eq]
  constructor
  · rintro ⟨⟨t, rfl⟩, h2⟩
    rw [List.drop_left] at h2
    simp at h2; simp [h2]
  · rintro rfl
    exact ⟨List.prefix_refl _, by simp⟩
theorem matchP_any (s : List UInt8) : matchP [⟨42, 0, false, []⟩] s = true := by
  rw [matchP_star rfl, anyT_iff]
  exact ⟨s.length, Nat.le_refl _, by rw [List.drop_length]; rfl⟩
theorem means_bytes (l : List UInt8) : meansP (bytesP l) = false := by
  simp [meansP, bytesP]
end Go.Proofs.Ytiacoomeakodnaa
