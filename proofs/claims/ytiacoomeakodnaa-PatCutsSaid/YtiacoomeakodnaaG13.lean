/-
  The walk of PatQuotes.
-/
import Derived.Test.YtiacoomeakodnaaG12
namespace Go.Proofs.Ytiacoomeakodnaa
open Go.RowKit

def starS : ByteArray := ⟨#[42]⟩
theorem quotes_comp1 (s : ByteArray) : comp (signsOf [⟨s, true⟩]) = bytesP (L s) := by
  have h := comp_quoted (L s) []
  rw [comp_nil, List.append_nil, List.append_nil] at h
  simpa [signsOf, signsP] using h
theorem comp_lone : comp [⟨42, false⟩] = [⟨42, 0, false, []⟩] := by kernel_rfl
theorem quotes_comp2 (s : ByteArray) : comp (signsOf [⟨s, true⟩, ⟨⟨#[42]⟩, false⟩]) = bytesP (L s) ++ [⟨42, 0, false, []⟩] := by
  have h := comp_quoted (L s) [⟨42, false⟩]
  rw [comp_lone] at h
  rw [← h]
  simp [signsOf, signsP]

/-- Match of a pattern that has been made, in every later world. -/
abbrev MatchAt (W1 : World) (v : Value) (s : ByteArray) (r : Bool) : Prop := ∀ W, Below W1.heap.size W1 W → Calls Try.prog 10 #[.agg #[v], .string s] W fun e w' => e = .returned (.bool r) ∧ Below W.heap.size W w'
theorem match_at {W1 : World} {base : Nat} {v : Value} {l : List Pt} (hp : PatOwn W1 base v l) (s : ByteArray) (r : Bool) (hr : matchP l (L s) = r) (hl : l.length ≤ 100000) (hs : s.size ≤ 100000) : Hid (MatchAt W1 v s r) := Lib.hid fun W hW => by
  rw [← hr]
  exact match_any _ _ s W ((hp.at_.below hW).mono hW.size) hl hs

def CompAt (w : World) (l : List Pt) (e : Ending) (w' : World) : Prop := Below w.heap.size w w' ∧ ∃ a n c, e = .returned (.agg #[.slice a n c]) ∧ PatOwn w' w.heap.size (.slice a n c) l
theorem CompAt.of {l : List Pt} {w : World} {e : Ending} {w' : World} (h : CompPost l w e w') : CompAt w l e w' := by
  obtain ⟨h1, v, h2, h3⟩ := h
  obtain ⟨a, n, c, rfl⟩ := h3.shape
  exact ⟨h1, a, n, c, h2, h3⟩

set_option maxHeartbeats 2000000 in
theorem quotes_any (s t : ByteArray) (w : World) (hs0 : s.size ≤ 140737488355327) (ht0 : t.size ≤ 140737488355327) :
    Calls Try.prog 7 #[.string s, .string t] w fun e w' => e = .returned (.bool true) ∧ Below w.heap.size w w' := by
  by_cases hbig : 1000 < s.size + t.size
  · have hb : decide (((s.size : Nat) : Int) + ((t.size : Nat) : Int) > 1000) = true := by simp; omega
    go_enter Try.func7, Try.ntmps7
    go_wp2_with fail
    refine (anchor_any _).mono ?_
    rintro e w1 ⟨rfl, hb1⟩
    go_wp2
    go_ret
    exact ⟨rfl, hb1⟩
  have hb : decide (((s.size : Nat) : Int) + ((t.size : Nat) : Int) > 1000) = false := by simp; omega
  have hs : s.size ≤ 1000 := by omega
  have ht : t.size ≤ 1000 := by omega
  have CE := Lib.hid (fun W => escape_any s W (by omega))
  have C1 : Hid (∀ (W : World) (g : Nat), g = W.heap.size → Calls Try.prog 12 #[.slice (some ⟨g, 0, none⟩) 1 1] (W.alloc (.cells #[.string s, .bool true] 41)) (CompAt (W.alloc (.cells #[.string s, .bool true] 41)) (bytesP (L s)))) := Lib.hid fun W g hg => by
    rw [← quotes_comp1]
    exact (comp_any [⟨s, true⟩] _ _ (sl_made_at W #[.string s, .bool true] _ 1 2 rfl (by unfold maxLen; omega) hg) (by simp [signsOf, signsP, L_size]; omega)).mono fun e w' h => CompAt.of h
  have C2 : Hid (∀ (W : World) (g : Nat), g = W.heap.size → Calls Try.prog 12 #[.slice (some ⟨g, 0, none⟩) 2 2] (W.alloc (.cells #[.string s, .bool true, .string ⟨#[42]⟩, .bool false] 41)) (CompAt (W.alloc (.cells #[.string s, .bool true, .string ⟨#[42]⟩, .bool false] 41)) (bytesP (L s) ++ [⟨42, 0, false, []⟩]))) := Lib.hid fun W g hg => by
    rw [← quotes_comp2]
    exact (comp_any [⟨s, true⟩, ⟨⟨#[42]⟩, false⟩] _ _ (sl_made_at W #[.string s, .bool true, .string ⟨#[42]⟩, .bool false] _ 2 2 rfl (by unfold maxLen; omega) hg) (by simp [signsOf, signsP, L_size]; omega)).mono fun e w' h => CompAt.of h
  obtain ⟨q, hq⟩ : ∃ q, (L t == L s) = q := ⟨_, rfl⟩
  have hst : (s.toList == t.toList) = q := by
    rw [toList_L, toList_L, ← hq, Bool.eq_iff_iff, beq_iff_eq, beq_iff_eq]; exact eq_comm
  have HQ := Lib.hid hq
  clear hbig hs0 ht0 hq
  cases q
  all_goals
    go_enter Try.func7, Try.ntmps7
    go_wp2_with fail
    refine (anchor_any _).mono ?_
    rintro e w1 ⟨rfl, hb1⟩
    have HB1 := Lib.hid hb1
    clear hb1
    go_wp2_with fail
    refine (CE.out _).mono ?_
    rintro e w2 ⟨rfl, hb2⟩
    have HB2 := Lib.hid (HB1.out.trans (hb2.mono HB1.out.size))
    clear hb2 HB1
    go_wp2_with fail
    refine (C1.out _ _ rfl).mono ?_
    rintro e w3 ⟨hb3, va, vn, vc, rfl, hp⟩
    have HB3 := Lib.hid ((HB2.out.trans (Below.alloc (Below.refl _ _) HB2.out.size _)).trans (hb3.mono (by have := HB2.out.size; simp; omega)))
    have M1 := match_at hp s true (by rw [match_quoted]; simp) (by simp [bytesP, L_size]; omega) (by omega)
    have M2 := match_at hp t _ ((match_quoted _ _).trans HQ.out) (by simp [bytesP, L_size]; omega) (by omega)
    have MM : Hid (∀ W, Below w3.heap.size w3 W → Calls Try.prog 14 #[.agg #[.slice va vn vc]] W fun e w' => e = .returned (.bool false) ∧ Below W.heap.size W w') := Lib.hid fun W hW => by
      rw [← means_bytes (L s)]
      exact means_any _ _ W ((hp.at_.below hW).mono hW.size)
    clear hp hb3
    go_wp2_with fail
    refine (M1.out _ (Below.alloc (Below.refl _ _) (Nat.le_refl _) _)).mono ?_
    rintro e w4 ⟨rfl, hb4⟩
    have z := ((Blk.new w3 26 #[.slice va vn vc]).below hb4 (by simp)).cell 0
    simp at z
    have hz4 : w3.heap.size < w4.heap.size := by have := hb4.size; simp at this; omega
    have HB4 := Lib.hid ((Below.alloc (Below.refl _ _) (Nat.le_refl _) _).trans (hb4.mono (by simp)))
    clear hb4
    go_wp2_with fail
    refine (M2.out _ HB4.out).mono ?_
    rintro e w5 ⟨rfl, hb5⟩
    have z5 := (hb5.cell (p := ⟨w3.heap.size, 0, none⟩) hz4).trans z
    have HB5 := Lib.hid (HB4.out.trans (hb5.mono HB4.out.size))
    clear hb5 z
    go_wp2_with fail
    refine (MM.out _ HB5.out).mono ?_
    rintro e w6 ⟨rfl, hb6⟩
    have HB6 := Lib.hid (HB5.out.trans (hb6.mono HB5.out.size))
    clear hb6 z5
    go_wp2_with fail
    refine (CE.out _).mono ?_
    rintro e w7 ⟨rfl, hb7⟩
    have HB7 := Lib.hid (HB6.out.trans (hb7.mono HB6.out.size))
    clear hb7
    go_wp2_with fail
    refine (C2.out _ _ rfl).mono ?_
    rintro e w8 ⟨hb8, va2, vn2, vc2, rfl, hp⟩
    have M3 := match_at hp (s ++ t) true (by rw [matchP_bytes, matchP_any, L_append]; simp) (by simp [bytesP, L_size]; omega) (by simp; omega)
    have HB8 := Lib.hid ((HB7.out.trans (Below.alloc (Below.refl _ _) HB7.out.size _)).trans (hb8.mono (by have := HB7.out.size; simp; omega)))
    clear hp hb8
    go_wp2_with fail
    refine (M3.out _ (Below.refl _ _)).mono ?_
    rintro e w9 ⟨rfl, hb9⟩
    have HB9 := Lib.hid (HB8.out.trans (hb9.mono HB8.out.size))
    clear hb9
    go_wp2_with fail
    go_ret
    exact ⟨rfl, HB3.out.trans (HB9.out.mono HB3.out.size)⟩
end Go.Proofs.Ytiacoomeakodnaa
