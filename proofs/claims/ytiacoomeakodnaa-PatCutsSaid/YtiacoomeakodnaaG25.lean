/-
  Pieces that came in; the walk of PatCuts.
-/
import Derived.Test.YtiacoomeakodnaaG24
import Derived.Test.YtiacoomeakodnaaSlIn
namespace Go.Proofs.Ytiacoomeakodnaa
open Go.ChangeShapes Go.WideShapes Go.ChangeAt Go.RowKit Go.Deep

theorem open_pcs {H : Type} {enc : TypeId × Value → H} {W : World} {v : Value} {d : DataW H} {p : List MemPlace} {r : Reach} {base : Nat} (hok : Value.okWide Try.prog W r base 30 v) (h : DataW.Trod enc Try.prog W 0 (fun _ => true) true 30 v d p) (hlt : ∀ x ∈ p, x.block < W.heap.size) :
    ∃ l : List Pc, Sl W W.heap.size 2 v l.length (l.flatMap pcC) ∧ ∀ p ∈ l, p.t.size ≤ maxLen := by
  obtain ⟨a, n, cap, rfl, hc, hm, h0⟩ := open_structs Try.underlying30 Try.underlying41 (by kernel_rfl) (by kernel_rfl) (by decide) hok h hlt
  rcases h0 with rfl | ⟨b, off, rfl, hb, hcell⟩
  · exact ⟨[], ⟨rfl, _, _, rfl, hc, hm, .inl rfl⟩, by simp⟩
  · obtain ⟨l, hl, hq⟩ := list_of (Q := fun i (x : Pc) => W.cell? ⟨b, off + (i * 2 + 0), none⟩ = some (.string x.t) ∧ W.cell? ⟨b, off + (i * 2 + 1), none⟩ = some (.bool x.q) ∧ x.t.size ≤ maxLen) n fun i hi => by
      obtain ⟨u0, y0, k0, hc0, ht0⟩ := hcell i hi 0 _ rfl
      obtain ⟨u1, y1, k1, hc1, ht1⟩ := hcell i hi 1 _ rfl
      obtain ⟨s, hs, _, hz⟩ := DataW.trod_string Try.underlying9 ht0
      obtain ⟨q, hq, _⟩ := DataW.trod_bool Try.underlying4 ht1
      simp at hs hq
      subst hs hq
      exact ⟨⟨s, q⟩, hc0, hc1, hz⟩
    subst hl
    refine ⟨l, sl_of pcC pcC_len (by decide) rfl hc hm hb fun i x hx j hj => ?_, fun p hp => ?_⟩
    · obtain ⟨h1, h2, _⟩ := hq i x hx
      match j, hj with
      | 0, _ => exact h1
      | 1, _ => exact h2
    · obtain ⟨i, hi, e⟩ := List.getElem_of_mem hp
      exact (hq i p (by rw [List.getElem?_eq_getElem hi, e])).2.2

set_option maxHeartbeats 4000000 in
set_option maxRecDepth 100000 in
theorem cuts_any (l : List Pc) (v : Value) (s : ByteArray) (en lg : Bool) (w : World) (hl : Sl w w.heap.size 2 v l.length (l.flatMap pcC)) (hps : ∀ p ∈ l, p.t.size ≤ maxLen) (hs0 : s.size ≤ maxLen) :
    Calls Try.prog 6 #[v, .string s, .bool en, .bool lg] w fun e w' => e = .returned (.bool true) ∧ Below w.heap.size w w' := by
  unfold maxLen at hs0
  obtain ⟨sl, hsl⟩ : ∃ sl, sl = signsOf l := ⟨_, rfl⟩
  have CR : Hid (∀ W, Below w.heap.size w W → Calls Try.prog 11 #[v] W (RefsPost sl W)) := Lib.hid fun W hW => by
    rw [hsl]; exact refs_any l v W ((hl.below hW).mono hW.size) hps
  have CC : Hid (sl.length ≤ 61 → ∀ W, Below w.heap.size w W → Calls Try.prog 12 #[v] W (CompAt W (comp sl))) := Lib.hid fun h W hW => by
    rw [hsl] at h ⊢
    exact (comp_any l v W ((hl.below hW).mono hW.size) (by omega)).mono fun e w' h => CompAt.of h
  clear hsl hps hl
  by_cases h61 : sl.length ≤ 61
  · have CR2 : Hid (∀ W, Below w.heap.size w W → Calls Try.prog 11 #[v] W (RefsAt sl W)) := Lib.hid fun W hW => (CR.out W hW).mono fun e w' h => RefsAt.of h61 h
    have CC2 := Lib.hid (CC.out h61)
    obtain ⟨few, hfew⟩ : ∃ few, decide (starsN sl ≤ 5) = few := ⟨_, rfl⟩
    obtain ⟨n, hn⟩ : ∃ n, sl.length = n := ⟨_, rfl⟩
    have HFEW := Lib.hid hfew
    have HN := Lib.hid hn
    have h61n : n ≤ 61 := by omega
    clear CR CC hfew hn h61
    go_enter Try.func6, Try.ntmps6
    go_wp2_with fail
    refine (anchor_any _).mono ?_
    rintro e w1 ⟨rfl, hb1⟩
    have HB1 := Lib.hid hb1
    clear hb1
    go_wp2_with fail
    refine (CR2.out _ HB1.out).mono ?_
    rintro e w2 ⟨hb2, xa, xc, rfl, hox⟩
    have HB2 := Lib.hid (HB1.out.trans (hb2.mono HB1.out.size))
    rw [HN.out] at hox ⊢
    rw [HFEW.out]
    have HOX := Lib.hid hox
    clear hb2 hox CR2
    cases few with
    | false =>
      go_wp2
      go_ret
      exact ⟨rfl, HB2.out⟩
    | true =>
      by_cases h40 : 25 < s.size
      · go_wp2
        go_ret
        exact ⟨rfl, HB2.out⟩
      · have hs : s.size ≤ 25 := by omega
        obtain ⟨o, ho⟩ := best_ex (fun n => matchP (comp sl) (cutPart (L s) en n)) lg s.size
        have HO := Lib.hid ho
        clear ho
        go_wp2_with fail
        refine (CC2.out _ HB2.out).mono ?_
        rintro e w3 ⟨hb3, va, vn, vc, rfl, hp⟩
        have HB3 := Lib.hid (HB2.out.trans (hb3.mono HB2.out.size))
        have hcl := comp_len sl
        rw [HN.out] at hcl
        have M1 : Hid (∀ W, Below w3.heap.size w3 W → Calls Try.prog 18 #[.agg #[.slice va vn vc], .string s, .bool en, .bool lg] W fun e w' => e = .returned (.string (cutLeft s en o)) ∧ Below W.heap.size W w') := Lib.hid fun W hW =>
          cut_any _ _ s en lg W ((hp.at_.below hW).mono hW.size) (by omega) (by omega) o HO.out
        have hox3 := own_below HOX.out hb3
        have N1 : Hid (∀ W, Below w3.heap.size w3 W → Calls Try.prog 19 #[.slice xa n xc, .string s, .bool en, .bool lg] W fun e w' => e = .returned (.string (cutLeft s en o)) ∧ Below W.heap.size W w') := Lib.hid fun W hW =>
          rcut_any sl _ (by rw [HN.out]; omega) s en lg W (by rw [HN.out]; exact Sl.of_own (own_below hox3 hW)) (by omega) o HO.out
        clear hb3 hp hox3 hcl
        go_wp2_with fail
        refine (M1.out _ (Below.refl _ _)).mono ?_
        rintro e w4 ⟨rfl, hb4⟩
        have HB4 := Lib.hid hb4
        clear hb4
        go_wp2_with fail
        refine (N1.out _ HB4.out).mono ?_
        rintro e w5 ⟨rfl, hb5⟩
        have HB5 := Lib.hid (HB4.out.trans (hb5.mono HB4.out.size))
        clear hb5
        go_wp2
        go_ret
        exact ⟨ret_bool (by simp), HB3.out.trans (HB5.out.mono HB3.out.size)⟩
  · have CR2 : Hid (∀ W, Below w.heap.size w W → Calls Try.prog 11 #[v] W fun e w' => e = .returned (.tuple #[.slice none 0 0, .bool false]) ∧ Below W.heap.size W w') := Lib.hid fun W hW => (CR.out W hW).mono fun e w' h => by
      obtain ⟨h1, h2⟩ := h
      rw [if_neg h61] at h2
      exact ⟨h2, h1⟩
    clear CR CC h61
    go_enter Try.func6, Try.ntmps6
    go_wp2_with fail
    refine (anchor_any _).mono ?_
    rintro e w1 ⟨rfl, hb1⟩
    go_wp2_with fail
    refine (CR2.out _ hb1).mono ?_
    rintro e w2 ⟨rfl, hb2⟩
    go_wp2
    go_ret
    exact ⟨rfl, hb1.trans (hb2.mono hb1.size)⟩
end Go.Proofs.Ytiacoomeakodnaa
