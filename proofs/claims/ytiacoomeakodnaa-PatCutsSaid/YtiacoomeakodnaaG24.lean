/-
  The walks of PatMatches and PatCuts.
-/
import Derived.Test.YtiacoomeakodnaaG23
import Derived.Test.YtiacoomeakodnaaG22
import Derived.Test.YtiacoomeakodnaaG13
namespace Go.Proofs.Ytiacoomeakodnaa
open Go.RowKit

def firstDot : List Sg → Bool
  | [] => false
  | x :: _ => x.b == 46
theorem dot_comp (l : List Sg) : dotP (comp l) = firstDot l := by
  cases l with
  | nil => rw [comp_nil]; rfl
  | cons x t =>
    cases h1 : (isb x 63 || isb x 42) with
    | true =>
      rw [comp_sign h1]
      have hx : x.b = 63 ∨ x.b = 42 := by
        rw [Bool.or_eq_true] at h1
        rcases h1 with h | h
        · exact .inl (isb_b h)
        · exact .inr (isb_b h)
      rcases hx with h | h <;> simp [dotP, firstDot, h]
    | false =>
      cases h2 : isb x 91 with
      | false => rw [comp_byte h1 (fun h => by rw [h2] at h; cases h)]; rfl
      | true =>
        cases h3 : setP t with
        | none => rw [comp_byte h1 (fun _ => h3)]; rfl
        | some y =>
          obtain ⟨p, m⟩ := y
          rw [comp_set h2 h3]
          simp [dotP, firstDot, setP_kind h3, isb_b h2]

theorem comp_len (l : List Sg) : (comp l).length ≤ l.length := comp_len_aux l.length l (Nat.le_refl _)

def RefsAt (s : List Sg) (w : World) (e : Ending) (w' : World) : Prop := Below w.heap.size w w' ∧ ∃ a c, e = .returned (.tuple #[.slice a s.length c, .bool (decide (starsN s ≤ 5))]) ∧ w'.ownsRow w.heap.size 38 2 (.slice a s.length c) s.length (s.flatMap sgC)
theorem RefsAt.of {s : List Sg} (hs : s.length ≤ 61) {w : World} {e : Ending} {w' : World} (h : RefsPost s w e w') : RefsAt s w e w' := by
  obtain ⟨h1, h2⟩ := h
  rw [if_pos hs] at h2
  obtain ⟨v, h3, h4⟩ := h2
  obtain ⟨a, c, rfl⟩ := own_shape h4
  exact ⟨h1, a, c, h3, h4⟩

set_option maxHeartbeats 4000000 in
set_option maxRecDepth 100000 in
theorem matches_any (l : List Pc) (v : Value) (s : ByteArray) (w : World) (hl : Sl w w.heap.size 2 v l.length (l.flatMap pcC)) (hps : ∀ p ∈ l, p.t.size ≤ maxLen) (hs0 : s.size ≤ maxLen) :
    Calls Try.prog 4 #[v, .string s] w fun e w' => e = .returned (.bool true) ∧ Below w.heap.size w w' := by
  unfold maxLen at hs0
  obtain ⟨sl, hsl⟩ : ∃ sl, sl = signsOf l := ⟨_, rfl⟩
  have CR : Hid (∀ W, Below w.heap.size w W → Calls Try.prog 11 #[v] W (RefsPost sl W)) := Lib.hid fun W hW => by
    rw [hsl]; exact refs_any l v W ((hl.below hW).mono hW.size) hps
  have CC : Hid (sl.length ≤ 61 → ∀ W, Below w.heap.size w W → Calls Try.prog 12 #[v] W (CompAt W (comp sl))) := Lib.hid fun h W hW => by
    rw [hsl] at h ⊢
    exact (comp_any l v W ((hl.below hW).mono hW.size) (by omega)).mono fun e w' h => CompAt.of h
  clear hsl hps hl
  by_cases h61 : sl.length ≤ 61
  · have CR2 : Hid (∀ W, Below w.heap.size w W → Calls Try.prog 11 #[v] W (RefsAt sl W)) := Lib.hid fun W hW => (CR.out W hW).mono fun e w' h => RefsAt.of h61 h
    have CC2 := Lib.hid (CC.out h61)
    obtain ⟨few, hfew⟩ : ∃ few, decide (starsN sl ≤ 5) = few := ⟨_, rfl⟩
    obtain ⟨n, hn⟩ : ∃ n, sl.length = n := ⟨_, rfl⟩
    have HFEW := Lib.hid hfew
    have HN := Lib.hid hn
    have h61n : n ≤ 61 := by omega
    clear CR CC hfew hn h61
    go_enter Try.func4, Try.ntmps4
    go_wp2_with fail
    refine (anchor_any _).mono ?_
    rintro e w1 ⟨rfl, hb1⟩
    have HB1 := Lib.hid hb1
    clear hb1
    go_wp2_with fail
    refine (CR2.out _ HB1.out).mono ?_
    rintro e w2 ⟨hb2, xa, xc, rfl, hox⟩
    have HB2 := Lib.hid (HB1.out.trans (hb2.mono HB1.out.size))
    rw [HN.out] at hox ⊢
    rw [HFEW.out]
    have HOX := Lib.hid hox
    clear hb2 hox CR2
    cases few with
    | false =>
      go_wp2
      go_ret
      exact ⟨rfl, HB2.out⟩
    | true =>
      by_cases h40 : 40 < s.size
      · go_wp2
        go_ret
        exact ⟨rfl, HB2.out⟩
      · have hs : s.size ≤ 40 := by omega
        go_wp2_with fail
        refine (CC2.out _ HB2.out).mono ?_
        rintro e w3 ⟨hb3, va, vn, vc, rfl, hp⟩
        have HB3 := Lib.hid (HB2.out.trans (hb3.mono HB2.out.size))
        obtain ⟨r1, hr1⟩ : ∃ r, matchP (comp sl) (L s) = r := ⟨_, rfl⟩
        obtain ⟨r2, hr2⟩ : ∃ r, meansP (comp sl) = r := ⟨_, rfl⟩
        obtain ⟨r3, hr3⟩ : ∃ r, firstDot sl = r := ⟨_, rfl⟩
        have hcl := comp_len sl
        rw [HN.out] at hcl
        have M1 := match_at hp s r1 hr1 (by omega) (by omega)
        have M2 : Hid (∀ W, Below w3.heap.size w3 W → Calls Try.prog 14 #[.agg #[.slice va vn vc]] W fun e w' => e = .returned (.bool r2) ∧ Below W.heap.size W w') := Lib.hid fun W hW => by
          rw [← hr2]; exact means_any _ _ W ((hp.at_.below hW).mono hW.size)
        have M3 : Hid (∀ W, Below w3.heap.size w3 W → Calls Try.prog 16 #[.agg #[.slice va vn vc]] W fun e w' => e = .returned (.bool r3) ∧ Below W.heap.size W w') := Lib.hid fun W hW => by
          rw [← hr3, ← dot_comp]; exact dot_any _ _ W ((hp.at_.below hW).mono hW.size)
        have hox3 := own_below HOX.out hb3
        have hsx : ∀ W, Below w3.heap.size w3 W → Sl W W.heap.size 2 (.slice xa n xc) sl.length (sl.flatMap sgC) := fun W hW => by
          rw [HN.out]; exact Sl.of_own (own_below hox3 hW)
        have N1 : Hid (∀ W, Below w3.heap.size w3 W → Calls Try.prog 13 #[.slice xa n xc, .int .i64 0, .string s] W fun e w' => e = .returned (.bool r1) ∧ Below W.heap.size W w') := Lib.hid fun W hW => by
          have h := rmatch_any sl (.slice xa n xc) (by rw [HN.out]; omega) sl.length 0 s W (by omega) (by omega) (by omega) (hsx W hW)
          rw [List.drop_zero, hr1] at h
          exact h
        have N2 : Hid (∀ W, Below w3.heap.size w3 W → Calls Try.prog 15 #[.slice xa n xc] W fun e w' => e = .returned (.bool r2) ∧ Below W.heap.size W w') := Lib.hid fun W hW => by
          rw [← hr2]; exact rmeans_any sl _ (by rw [HN.out]; omega) W (hsx W hW)
        have HSX := Lib.hid hsx
        have HR3 := Lib.hid hr3
        clear hb3 hp hr1 hr2 hr3 hox3 hsx hcl
        go_wp2_with fail
        refine (M1.out _ (Below.alloc (Below.refl _ _) (Nat.le_refl _) _)).mono ?_
        rintro e w4 ⟨rfl, hb4⟩
        have z := ((Blk.new w3 26 #[.slice va vn vc]).below hb4 (by simp)).cell 0
        simp at z
        have hz4 : w3.heap.size < w4.heap.size := by have := hb4.size; simp at this; omega
        have HB4 := Lib.hid ((Below.alloc (Below.refl _ _) (Nat.le_refl _) _).trans (hb4.mono (by simp)))
        clear hb4
        go_wp2_with fail
        refine (N1.out _ HB4.out).mono ?_
        rintro e w5 ⟨rfl, hb5⟩
        have z5 := (hb5.cell (p := ⟨w3.heap.size, 0, none⟩) hz4).trans z
        have hz5 : w3.heap.size < w5.heap.size := Nat.lt_of_lt_of_le hz4 hb5.size
        have HB5 := Lib.hid (HB4.out.trans (hb5.mono HB4.out.size))
        clear hb5 z
        cases r1
        all_goals
          go_wp2_with fail
          refine (M2.out _ HB5.out).mono ?_
          rintro e w6 ⟨rfl, hb6⟩
          have z6 := (hb6.cell (p := ⟨w3.heap.size, 0, none⟩) hz5).trans z5
          have HB6 := Lib.hid (HB5.out.trans (hb6.mono HB5.out.size))
          have hz6 : w3.heap.size < w6.heap.size := Nat.lt_of_lt_of_le hz5 hb6.size
          clear hb6
          go_wp2_with fail
          refine (N2.out _ HB6.out).mono ?_
          rintro e w7 ⟨rfl, hb7⟩
          have z7 := (hb7.cell (p := ⟨w3.heap.size, 0, none⟩) hz6).trans z6
          have HB7 := Lib.hid (HB6.out.trans (hb7.mono HB6.out.size))
          clear hb7 z6 z5
          cases r2
          all_goals
            go_wp2_with fail
            refine (M3.out _ HB7.out).mono ?_
            rintro e w8 ⟨rfl, hb8⟩
            have HB8 := Lib.hid (HB7.out.trans (hb8.mono HB7.out.size))
            clear hb8 z7
            by_cases hn0 : 0 < n
            · obtain ⟨x, hx⟩ : ∃ x, sl[0]? = some x := ⟨_, List.getElem?_eq_getElem (by rw [HN.out]; exact hn0)⟩
              obtain ⟨b1, o1, i1, hb1, c1, d1⟩ := rsg_at (HSX.out _ HB8.out) hx 0 rfl
              have hfd : firstDot sl = (x.b == 46) := by
                cases h : sl with
                | nil => rw [h] at hx; simp at hx
                | cons y t => rw [h] at hx; simp at hx; rw [hx]; rfl
              have hbb : (((x.b.toNat : Nat) : Int) == 46) = r3 := by rw [← HR3.out, hfd]; exact beq_byte x.b 46
              clear hx hfd
              go_wp2
              go_ret
              exact ⟨ret_bool (by simp), HB3.out.trans (HB8.out.mono HB3.out.size)⟩
            · have hr3 : r3 = false := by
                rw [← HR3.out]
                have : sl = [] := List.length_eq_zero_iff.1 (by rw [HN.out]; omega)
                rw [this]; rfl
              subst hr3
              go_wp2
              go_ret
              exact ⟨rfl, HB3.out.trans (HB8.out.mono HB3.out.size)⟩
  · have CR2 : Hid (∀ W, Below w.heap.size w W → Calls Try.prog 11 #[v] W fun e w' => e = .returned (.tuple #[.slice none 0 0, .bool false]) ∧ Below W.heap.size W w') := Lib.hid fun W hW => (CR.out W hW).mono fun e w' h => by
      obtain ⟨h1, h2⟩ := h
      rw [if_neg h61] at h2
      exact ⟨h2, h1⟩
    clear CR CC h61
    go_enter Try.func4, Try.ntmps4
    go_wp2_with fail
    refine (anchor_any _).mono ?_
    rintro e w1 ⟨rfl, hb1⟩
    go_wp2_with fail
    refine (CR2.out _ hb1).mono ?_
    rintro e w2 ⟨rfl, hb2⟩
    go_wp2
    go_ret
    exact ⟨rfl, hb1.trans (hb2.mono hb1.size)⟩
end Go.Proofs.Ytiacoomeakodnaa
