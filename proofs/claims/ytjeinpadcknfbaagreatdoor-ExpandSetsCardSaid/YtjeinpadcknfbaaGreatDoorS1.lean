/-
  ExpandSets returns true for every two strings, whether the variable is set or not: one that is not set gets the word's text, once; one that is set keeps its own. The card ties the listed variables to the program's text (a great table of the library is pinned by name).
-/
import Derived.Test.YtjeinpadcknfbaaGreatDoorWB9
import Derived.Test.YtjeinpadcknfbaaGreatDoorWB1
import Derived.ProofKit
import Derived.SizedLaws
import Derived.HandedShaped
import Derived.Shelf.Vars
import Derived.OpenShut
import Derived.LaidMore
import Derived.Lay
import Derived.SevenTiedAt
import Derived.Stop.Joined
import Derived.Test.YtjeinpadcknfbaaGreatDoorCards
import Derived.Test.YtjeinpadcknfbaaGreatDoorTie
set_option linter.unusedVariables false
set_option linter.unusedSimpArgs false
/-
  ExpandSets, the variable not being set: the walk.
-/
namespace Go.Proofs.YtjeinpadcknfbaaGreatDoor
open Go.RowKit

set_option maxHeartbeats 4000000 in
set_option maxRecDepth 100000 in
theorem sets_no (t s : ByteArray) (w : World) (ht : t.size ≤ 140737488355327) (hs : s.size ≤ 140737488355327) (hH : Held w) :
    Calls Tryz.prog 4 #[.string t, .string s, .bool false] w fun e w' => e = .returned (.bool true) ∧ Below w.heap.size w w' := by
  have CA := Lib.hid (anchor_any w hH)
  have HH := Lib.hid hH
  have h0 := hH.2
  by_cases hbig : 500 < t.size + s.size
  · have hb : decide (((t.size : Nat) : Int) + ((s.size : Nat) : Int) > 500) = true := by simp; omega
    clear hH
    go_enter Tryz.func4, Tryz.ntmps4
    go_wp2_with fail
    refine CA.out.mono ?_
    rintro e w1 ⟨rfl, hb1⟩
    have HB1 := Lib.hid hb1
    clear hb1
    go_wp2_with fail
    go_ret
    exact ⟨rfl, HB1.out⟩
  · have hb : decide (((t.size : Nat) : Int) + ((s.size : Nat) : Int) > 500) = false := by simp; omega
    have htz : t.size ≤ 500 := by omega
    have hsz : s.size ≤ 500 := by omega
    have CZ := Lib.hid (fun W => zero_any s W (by omega))
    clear hH
    go_enter Tryz.func4, Tryz.ntmps4
    go_wp2_with fail
    refine CA.out.mono ?_
    rintro e w1 ⟨rfl, hb1⟩
    have HB1 := Lib.hid hb1
    have HH1 := Lib.hid (HH.out.below h0 hb1)
    clear hb1
    go_wp2_with fail
    refine (CZ.out _).mono ?_
    rintro e w2 ⟨⟨z, rfl⟩, rfl⟩
    cases z
    · have CN := Lib.hid (new_none w1 HH1.out)
      go_wp2_with fail
      refine CN.out.mono ?_
      rintro e w2 ⟨g, mb, rfl, hV2, hb2⟩
      have HV2 := Lib.hid hV2
      have HB2 : Hid (Below w.heap.size w w2) := Lib.hid (HB1.out.trans (hb2.mono HB1.out.size))
      clear hV2 hb2
      go_wp2_with fail
      refine (New_any g _ _ false _).mono ?_
      rintro e w3 ⟨rfl, hx3, hb3⟩
      have HX3 : Hid (XBk w3 (w2.heap.size + 1) g (.iface 29 (.pointer (some ⟨w2.heap.size, 0, none⟩))) false) := Lib.hid (by simpa using hx3)
      have HV3 : Hid (∃ lo v0, VS v0 w3 lo g mb 0 [] [] 0) := Lib.hid (by
        obtain ⟨v, h⟩ := HV2.out
        exact ⟨_, v, (h.below ((Below.refl _ _).alloc (Nat.le_refl _) _)).below hb3⟩)
      have HGL : Hid (w2.heap.size + 1 ≠ g ∧ w2.heap.size + 1 ≠ mb) := Lib.hid (by
        obtain ⟨v, h⟩ := HV2.out
        have := h.lt
        omega)
      have HB3 := Lib.hid (HB2.out.trans (((Below.refl w2.heap.size w2).alloc (Nat.le_refl _) (.cells #[.string ⟨#[]⟩, .int .i64 0, .slice none 0 0, .slice none 0 0] 32)).trans (hb3.mono (by simp)) |>.mono HB2.out.size))
      obtain ⟨xg, hxg⟩ : ∃ xg, xg = w2.heap.size + 1 := ⟨_, rfl⟩
      have hxe : (w2.alloc (.cells #[.string ⟨#[]⟩, .int .i64 0, .slice none 0 0, .slice none 0 0] 32)).heap.size = xg := by rw [hxg]; simp
      rw [hxe]
      rw [← hxg] at HX3 HGL
      have hxl : xg < w3.heap.size := HX3.out.lt
      clear hx3 hb3 hxg hxe
      go_wp2_with fail
      obtain ⟨w4, hw4⟩ : ∃ w4, w4 = w3.alloc (.cells #[.int .i64 1, .bool true, .string s, .string ⟨#[]⟩, .slice none 0 0, .slice none 0 0] 36) := ⟨_, rfl⟩
      have HWD : Hid (WordAt w4 (some ⟨w3.heap.size, 0, none⟩) 1 ⟨1, true, s, ⟨#[]⟩, none, 0, 0⟩) := Lib.hid (by rw [hw4]; exact part_word w3 s hsz rfl)
      have HW4 : Hid (Below w3.heap.size w3 w4) := Lib.hid (by rw [hw4]; go_grown)
      have hs4 : w4.heap.size = w3.heap.size + 1 := by rw [hw4]; simp
      rw [← hw4]
      have HS4 := Lib.hid hs4
      have CT : Hid (∀ h, h = w4.heap.size → Calls Tryz.prog 9 #[.pointer (some ⟨xg, 0, none⟩), .slice (some ⟨h, 0, none⟩) 1 1] (w4.alloc (.cells #[.int .i64 2, .bool true, .string ⟨#[120]⟩, .string ⟨#[45]⟩, .slice (some ⟨w3.heap.size, 0, none⟩) 1 1, .slice none 0 0] 36)) fun e w' => e = .returned (.tuple #[.string s, .int .i64 0]) ∧ Below w4.heap.size w4 w') := Lib.hid fun h hh => by
        obtain ⟨lo, v, hv⟩ := HV3.out
        have hb0 : Below w4.heap.size w4 (w4.alloc (.cells #[.int .i64 2, .bool true, .string ⟨#[120]⟩, .string ⟨#[45]⟩, .slice (some ⟨w3.heap.size, 0, none⟩) 1 1, .slice none 0 0] 36)) := (Below.refl _ _).alloc (Nat.le_refl _) _
        refine (Text_of xg (some ⟨h, 0, none⟩) 1 ⟨2, true, ⟨#[120]⟩, ⟨#[45]⟩, some ⟨w3.heap.size, 0, none⟩, 1, 1⟩ ⟨s, true, false, false⟩ _ (Nat.lt_of_lt_of_le hxl (Nat.le_trans HW4.out.size hb0.size)) (part_made w4 ⟨2, true, ⟨#[120]⟩, ⟨#[45]⟩, some ⟨w3.heap.size, 0, none⟩, 1, 1⟩ hh) rfl hsz rfl fun W' hW' => ?_).mono fun e w' ⟨h1, h2⟩ => ⟨h1, hb0.trans (h2.mono (by simp))⟩
        have hb1 : Below w4.heap.size w4 W' := hb0.trans (hW'.mono hb0.size)
        have hb2 : Below w3.heap.size w3 W' := HW4.out.trans (hb1.mono HW4.out.size)
        exact param_not xg _ false _ 1 ⟨1, true, s, ⟨#[]⟩, none, 0, 0⟩ W' (HX3.out.below hb2 hxl) ⟨v, hv.below hb2⟩ (HWD.out.below hb1) rfl
      have CG0 : Hid (∀ W, Below w3.heap.size w3 W → Calls Tryz.prog 11 #[.pointer (some ⟨g, 0, none⟩), .string ⟨#[120]⟩] W fun e w' => e = .returned (.tuple #[.string ⟨#[]⟩, .bool false]) ∧ Below W.heap.size W w') := Lib.hid fun W hW => by
        obtain ⟨lo, v, hv⟩ := HV3.out
        exact vget_any ⟨#[120]⟩ W ⟨v, hv.below hW⟩ (by unfold maxLen; decide)
      have CP : Hid (∀ W h, Below w4.heap.size w4 W → h = W.heap.size → Calls Tryz.prog 9 #[.pointer (some ⟨xg, 0, none⟩), .slice (some ⟨h, 0, none⟩) 1 1] (W.alloc (.cells #[.int .i64 2, .bool true, .string ⟨#[120]⟩, .string ⟨#[61]⟩, .slice (some ⟨w3.heap.size, 0, none⟩) 1 1, .slice none 0 0] 36)) fun e w' => e = .returned (.tuple #[.string s, .int .i64 0]) ∧ (∃ lo v0, VS v0 w' lo g mb 1 [(xN, ⟨L s, true, false, false⟩)] [] 0) ∧ But g mb W w') := Lib.hid fun W h hW hh => by
        obtain ⟨lo, v, hv⟩ := HV3.out
        have hb0 : Below w4.heap.size w4 (W.alloc (.cells #[.int .i64 2, .bool true, .string ⟨#[120]⟩, .string ⟨#[61]⟩, .slice (some ⟨w3.heap.size, 0, none⟩) 1 1, .slice none 0 0] 36)) := hW.alloc hW.size _
        have hb2 : Below w3.heap.size w3 (W.alloc (.cells #[.int .i64 2, .bool true, .string ⟨#[120]⟩, .string ⟨#[61]⟩, .slice (some ⟨w3.heap.size, 0, none⟩) 1 1, .slice none 0 0] 36)) := HW4.out.trans (hb0.mono HW4.out.size)
        refine (Text_put v xg _ false (some ⟨h, 0, none⟩) 1 (some ⟨w3.heap.size, 0, none⟩) 1 ⟨1, true, s, ⟨#[]⟩, none, 0, 0⟩ _ (HX3.out.below hb2 hxl) HGL.out (hv.below hb2) (by omega) (HWD.out.below hb0) rfl (part_made W ⟨2, true, ⟨#[120]⟩, ⟨#[61]⟩, some ⟨w3.heap.size, 0, none⟩, 1, 1⟩ hh)).mono fun e w' ⟨h1, h2, h3⟩ => ⟨h1, ⟨lo, v, h2⟩, (But.of_below ((Below.refl W.heap.size W).alloc (Nat.le_refl _) _)).trans h3⟩
      have CG1 : Hid (∀ W, (∃ lo v0, VS v0 W lo g mb 1 [(xN, ⟨L s, true, false, false⟩)] [] 0) → Calls Tryz.prog 11 #[.pointer (some ⟨g, 0, none⟩), .string ⟨#[120]⟩] W fun e w' => e = .returned (.tuple #[.string s, .bool true]) ∧ Below W.heap.size W w') := Lib.hid fun W ⟨lo, v, hv⟩ => by
        have := vget_any ⟨#[120]⟩ W ⟨v, hv⟩ (by unfold maxLen; decide)
        rw [show find [(xN, (⟨L s, true, false, false⟩ : Xd))] (L ⟨#[120]⟩) = ⟨L s, true, false, false⟩ from find_x _] at this
        rw [show (⟨(L s).toArray⟩ : ByteArray) = s from S_L s] at this
        exact this
      have HGE : Hid (w.heap.size ≤ g ∧ w.heap.size ≤ mb) := Lib.hid (by
        obtain ⟨v, h⟩ := HV2.out
        have h1 := h.ge
        have h2 := HB1.out.size
        omega)
      clear hw4 hs4
      refine (CT.out _ (by rw [HS4.out])).mono ?_
      rintro e w5 ⟨rfl, hb5⟩
      have HW5 := Lib.hid hb5
      clear hb5
      go_wp2_with fail
      refine (CG0.out _ (HW4.out.trans (HW5.out.mono HW4.out.size))).mono ?_
      rintro e w6 ⟨rfl, hb6⟩
      have HW6 := Lib.hid (HW5.out.trans (hb6.mono HW5.out.size))
      clear hb6
      go_wp2_with fail
      refine (CP.out _ _ HW6.out rfl).mono ?_
      rintro e w7 ⟨rfl, hv7, hb7⟩
      have HV7 := Lib.hid hv7
      have HB7 : Hid (Below w.heap.size w w7) := Lib.hid (by
        have h6 : Below w.heap.size w w6 := HB3.out.trans ((HW4.out.trans (HW6.out.mono HW4.out.size)).mono HB3.out.size)
        exact h6.trans (hb7.below HGE.out.1 HGE.out.2 h6.size))
      clear hb7 hv7
      go_wp2_with fail
      refine (CG1.out _ HV7.out).mono ?_
      rintro e w8 ⟨rfl, hb8⟩
      have HW8 := Lib.hid (HB7.out.trans (hb8.mono HB7.out.size))
      clear hb8
      go_wp2_with fail
      go_ret
      exact ⟨rfl, HW8.out⟩
    · go_wp2_with fail
      go_ret
      exact ⟨rfl, HB1.out⟩
end Go.Proofs.YtjeinpadcknfbaaGreatDoor
/-
  The frame of a law's proof: what its arguments are when the call begins; that they read behind the call as they did.
-/
namespace Go.Proofs.YtjeinpadcknfbaaGreatDoor
open Go.ChangeShapes Go.WideShapes Go.ChangeAt Go.RowKit

theorem Tryz.own : ownKnob Tryz.prog.godebug = none := by kernel_rfl
theorem Tryz.laidOut : laidOutB Tryz.prog = true := by kernel_rfl

/-- All arguments read behind the call as before, where nothing has turned that was there. -/
theorem below_trodAll {H : Type} {enc : TypeId × Value → H} {P : Program} (hl : laidOutB P = true) {W W' : World} (hb : Below W.heap.size W W') :
    ∀ (ts : List TypeId) (vs : List Value) (ds : List (DataW H)) (ps : List MemPlace), (∀ t ∈ ts, P.readableRec t = true) → (∀ t ∈ ts, t < P.types.size) → (∀ x ∈ ps, x.block < W.heap.size) →
      DataW.TrodAll enc P W 0 (fun _ => true) true ts vs ds ps → DataW.TrodAll enc P W' 0 (fun b => decide (b < W.heap.size)) true ts vs ds ps := by
  intro ts
  induction ts with
  | nil =>
    intro vs ds ps _ _ _ h
    obtain ⟨rfl, rfl, rfl⟩ := trodAll_nil h
    rfl
  | cons t ts ih =>
    intro vs ds ps h1 h2 h3 h
    obtain ⟨v, vs', d, ds', p, q, rfl, rfl, rfl, ht, hts⟩ := trodAll_cons h
    exact trodAll_cons_mk (Below.trod hl (h1 t (by simp)) (h2 t (by simp)) ht hb (fun x hx => h3 x (by simp [hx])))
      (ih vs' ds' q (fun t ht => h1 t (by simp [ht])) (fun t ht => h2 t (by simp [ht])) (fun x hx => h3 x (by simp [hx])) hts)

section
variable {H : Type} {enc : TypeId × Value → H} {P : Program} {W : World}

/-- A slice of strings that came in. -/
theorem open_strs {t e : TypeId} {v : Value} {d : DataW H} {p : List MemPlace} (ht : P.underlying t = some (.slice e)) (he : P.underlying e = some .string) (hc : P.cellsOf e = 1) {r : Reach} {base : Nat}
    (hok : Value.okWide P W r base t v) (h : DataW.Trod enc P W 0 (fun _ => true) true t v d p) (hlt : ∀ x ∈ p, x.block < W.heap.size) :
    ∃ a n cap ss, v = .slice a n cap ∧ Elems W W.heap.size a n ((ss : List ByteArray).map Value.string) ∧ ∀ s ∈ ss, s.size ≤ maxLen := by
  obtain ⟨a0, len, cap, rfl⟩ := okWide_slice ht hok
  obtain ⟨fuel, hf⟩ := h
  rcases open_strings ht he hc hf with ⟨hcs, hx⟩ | ⟨a, len', cap', ss, hcs, _, hl, hm, hz, hx, hcell, hws⟩
  · simp [Value.cells] at hcs
    obtain ⟨rfl, rfl, rfl⟩ := hcs
    exact ⟨none, 0, 0, [], rfl, ⟨rfl, Nat.zero_le _, .inl rfl⟩, by simp⟩
  · simp [Value.cells] at hcs
    obtain ⟨rfl, rfl, rfl⟩ := hcs
    simp only [Prod.mk.injEq] at hx
    obtain ⟨rfl, rfl⟩ := hx
    simp only [if_true] at hz
    refine ⟨some a, len, cap, ss.take len, rfl, ⟨by simp; omega, by omega, ?_⟩, fun s hs => hws s (List.mem_of_mem_take hs)⟩
    by_cases hl0 : len = 0
    · exact .inl hl0
    · obtain ⟨b, off, spot⟩ := a
      have hspot : spot = none := by simpa [Addr.add] using World.cell?_spot (hcell 0 (by omega))
      subst hspot
      refine .inr ⟨b, off, rfl, hlt (.cell b off) (MemPlace.mem_row.2 ⟨0, by omega, by simp⟩), fun i hi => ?_⟩
      rw [← addr_add, hcell i (by omega)]
      simp [hi, List.getD, List.getElem?_eq_getElem (show i < ss.length by omega)]

/-- The same; and no string is longer than the call's reach. -/
theorem open_strs_z {t e : TypeId} {v : Value} {d : DataW H} {p : List MemPlace} (ht : P.underlying t = some (.slice e)) (he : P.underlying e = some .string) (hc : P.cellsOf e = 1) {r : Reach} {base : Nat}
    (hok : Value.okWide P W r base t v) (h : DataW.Trod enc P W 0 (fun _ => true) true t v d p) (hlt : ∀ x ∈ p, x.block < W.heap.size) {Z : Nat} (hz : ∀ n ∈ d.weights P t, n ≤ Z) :
    ∃ a n cap ss, v = .slice a n cap ∧ Elems W W.heap.size a n ((ss : List ByteArray).map Value.string) ∧ ∀ s ∈ ss, s.size ≤ Z := by
  obtain ⟨a0, len, cap, rfl⟩ := okWide_slice ht hok
  obtain ⟨fuel, hf⟩ := h
  rcases open_strings ht he hc hf with ⟨hcs, hx⟩ | ⟨a, len', cap', ss, hcs, _, hl, hm, hz2, hx, hcell, hws⟩
  · simp [Value.cells] at hcs
    obtain ⟨rfl, rfl, rfl⟩ := hcs
    exact ⟨none, 0, 0, [], rfl, ⟨rfl, Nat.zero_le _, .inl rfl⟩, by simp⟩
  · simp [Value.cells] at hcs
    obtain ⟨rfl, rfl, rfl⟩ := hcs
    simp only [Prod.mk.injEq] at hx
    obtain ⟨rfl, rfl⟩ := hx
    simp only [if_true] at hz2
    refine ⟨some a, len, cap, ss.take len, rfl, ⟨by simp; omega, by omega, ?_⟩, fun s hs => ?_⟩
    · by_cases hl0 : len = 0
      · exact .inl hl0
      · obtain ⟨b, off, spot⟩ := a
        have hspot : spot = none := by simpa [Addr.add] using World.cell?_spot (hcell 0 (by omega))
        subst hspot
        refine .inr ⟨b, off, rfl, hlt (.cell b off) (MemPlace.mem_row.2 ⟨0, by omega, by simp⟩), fun i hi => ?_⟩
        rw [← addr_add, hcell i (by omega)]
        simp [hi, List.getD, List.getElem?_eq_getElem (show i < ss.length by omega)]
    · refine hz _ ?_
      have key : ∀ l : List ByteArray, s ∈ l → s.size ∈ DataW.weightsAll P e (strs l : List (DataW H)) := by
        intro l
        induction l with
        | nil => intro h; simp at h
        | cons x l ih =>
          intro h
          simp only [strs, List.map_cons, DataW.weightsAll, DataW.weights]
          rcases List.mem_cons.1 h with rfl | h
          · exact List.mem_append_left _ (by simp)
          · exact List.mem_append_right _ (ih h)
      simp only [DataW.weights, ht]
      exact List.mem_cons_of_mem _ (List.mem_append_left _ (key _ hs))
end

/-- A law's end: it has returned true, and nothing has turned that was there. -/
theorem law_post {H : Type} {enc : TypeId × Value → H} {fn : Func} {s : ChangeSpec} {W W' : World} {args : Array Value} {ds : List (DataW H)} {p : List MemPlace}
    (hv : s.vars = []) (hs : s.fn H (ds ++ []) = { results := [.lit (.bool true)], args := ds }) (hres : fn.resultTypes = #[4])
    (hr : fn.params.toList.all (fun t => Tryz.prog.readableRec t && decide (t < Tryz.prog.types.size)) = true)
    (hW : DataW.Whole enc Tryz.prog fn.params.toList s.vars false W args.toList ds [] p)
    (hA : DataW.TrodAll enc Tryz.prog W 0 (fun _ => true) true fn.params.toList args.toList ds p) (hb : Below W.heap.size W W') :
    s.post enc Tryz.prog fn false true false false W args (.bool true) W' := by
  have hlt : ∀ x ∈ p, x.block < W.heap.size := fun x hx => by simpa using hW.lt x hx
  refine ⟨_, _, _, [], p, [], hW, ?_, ?_, ?_, hb.frame _, fun h => by cases h⟩
  · rw [hs, hres]; exact trodAll_mk1 (shut_bool Tryz.underlying4 true)
  · rw [hs]; exact below_trodAll Tryz.laidOut hb _ _ _ _ (fun t ht => (by simpa using (List.all_eq_true.1 hr) t ht : _ ∧ _).1) (fun t ht => (by simpa using (List.all_eq_true.1 hr) t ht : _ ∧ _).2) hlt hA
  · rw [hs, hv]; rfl
end Go.Proofs.YtjeinpadcknfbaaGreatDoor
/-
  The wrap for a row that lists variables, the world's shape kept; strings.Split's cell out of the shape.
-/
namespace Go.Proofs.YtjeinpadcknfbaaGreatDoor
open Go.ChangeShapes Go.WideShapes Go.ChangeAt Go.RowKit

theorem held_of_shape {W : World} (h : W.ShapedOpen Tryz.prog) : Held W := by
  obtain ⟨c, hc⟩ := Go.Proofs.cell_of_shapedOpen_int (g := 0) (zero := #[.int .i64 0]) (t := 3) h (of_decide_eq_true (by kernel_rfl)) (by kernel_rfl) rfl (by kernel_rfl) (by kernel_rfl) Tryz.underlying3
  exact ⟨⟨c, hc⟩, Nat.lt_of_le_of_lt (Nat.zero_le _) (World.block_lt_of_cell? W _ hc)⟩

theorem returns_laid {H : Type} {enc : TypeId × Value → H} {a : Assume} {C : Checked} {os : Os} {f : FuncId} {fn : Func} {s : ChangeSpec} {conds : List PathCond} {apart fresh handsOn again : Bool} {X : World → Array Value → Prop}
    (hX : ∀ (w w' : World) (args : Array Value), w.heap = w'.heap → X w args → X w' args)
    (own : ownKnob C.prog.godebug = none) (started : os.Started) (noInit : C.prog.inits.idxOf? f = none) (hfn : C.prog.funcs[f]? = some fn)
    (witness : ∃ (w : World) (tape : Tape) (i : Input), w.os = os ∧ (w.forCall tape i).Shaped C.prog ∧ i.vars = [] ∧ Input.okWide C.prog (w.forCall tape i) .any w.heap.size f i ∧
      ((s.pre enc C.prog fn conds apart (w.forCall tape i).memory i.args ∧ X (w.forCall tape i).memory i.args) ∧ sizedMet enc C.prog fn (OpenSpec.ofChange s) apart (w.forCall tape i).memory i.args) ∧ a.holds C.prog (lone (Frame.enter C.prog f i.args .normal) [] (w.forCall tape i)))
    (contract : ∀ (W : World) (base : Nat) (args : Array Value) (ds gs : List (DataW H)) (before : List MemPlace),
      (∀ (j : Nat) t v, fn.params[j]? = some t → args[j]? = some v → Value.okWide C.prog W .any base t v) →
      DataW.Whole enc C.prog fn.params.toList s.vars apart W args.toList ds gs before →
      (DataW.weightsEach C.prog (fn.params.toList ++ s.plain.varTypes C.prog) (ds ++ gs)).all (· ≤ reachBytes) = true → X W args → W.ShapedOpen C.prog →
      Calls C.prog f args W fun e W' => ∃ v, e = .returned v ∧ s.post enc C.prog fn apart fresh handsOn again W args v W') :
    ReturnsInHanded a C os f .any (fun w args => (s.pre enc C.prog fn conds apart w args ∧ X w args) ∧ sizedMet enc C.prog fn (OpenSpec.ofChange s) apart w args) (s.post enc C.prog fn apart fresh handsOn again) := by
  refine returnsInHanded_of_calls own started noInit witness ?_
  intro w tape i _ hsh _ hok hpre _
  obtain ⟨_, _, _, fn', hfn', _, _, _, _, hval⟩ := hok
  obtain rfl : fn' = fn := Option.some.inj (hfn'.symm.trans hfn)
  obtain ⟨⟨⟨ds, gs, before, hw, _⟩, hx⟩, hz⟩ := hpre
  have hw' := DataW.Whole.of_heap (w' := w.forCall tape i) (by rfl) hw
  refine (contract (w.forCall tape i) w.heap.size i.args ds gs before hval hw' (hz.weights hw) (hX _ _ _ (by rfl) hx) hsh).mono fun e W' ⟨v, he, hp⟩ => ?_
  subst he
  exact ChangeSpec.post_blind hp
end Go.Proofs.YtjeinpadcknfbaaGreatDoor
namespace Go.Proofs.YtjeinpadcknfbaaGreatDoor
open Go.ChangeShapes Go.WideShapes Go.ChangeAt Go.RowKit

theorem sets_any (t s : ByteArray) (b : Bool) (w : World) (ht : t.size ≤ 140737488355327) (hs : s.size ≤ 140737488355327) (hH : Held w) :
    Calls Tryz.prog 4 #[.string t, .string s, .bool b] w fun e w' => e = .returned (.bool true) ∧ Below w.heap.size w w' := by
  cases b
  · exact sets_no t s w ht hs hH
  · exact sets_yes t s w ht hs hH

set_option maxRecDepth 100000 in
theorem expandSets_lifted (os : Os) (started : os.Started) (H : Type) (enc : TypeId × Value → H) :
    ReturnsInHanded {} Tryz.checked os 4 .any (fun w args => (Rows.expandSetsSpec.pre enc Tryz.prog Tryz.f4 Rows.expandSetsRow.domain false w args ∧ laidMetH Tryz.prog Rows.expandSetsRow.laid w) ∧ sizedMet enc Tryz.prog Tryz.f4 (OpenSpec.ofChange Rows.expandSetsSpec) false w args)
      (Rows.expandSetsSpec.post enc Tryz.prog Tryz.f4 false true false false) := by
  refine returns_laid (C := Tryz.checked) (X := fun w _ => laidMetH Tryz.prog Rows.expandSetsRow.laid w) (fun _ _ _ hh h => h.of_heap hh) Tryz.own started (by kernel_rfl) Tryz.func4
    (ChangeSpec.witness_shaped (enc := enc) (C := Tryz.checked) (os := os) (X := fun w _ => laidMetH Tryz.prog Rows.expandSetsRow.laid w) false (World.laidAll Tryz.prog os Rows.expandSetsRow.laid) #[.string ⟨#[]⟩, .string ⟨#[]⟩, .bool false] 8 (World.laidAll_os _ _ _)
      (World.shaped_of_ZipB (by kernel_rfl) (by kernel_rfl)) (by kernel_rfl) (by kernel_rfl) (by kernel_rfl)
      (by rw [MakeChecks.laidMetH_plain _ _ _ (by kernel_rfl)]; exact laidMet_laidAll _ (by kernel_rfl) (by kernel_rfl))) ?_
  intro W base args ds gs before hval0 hW hz0 _ hsh
  have hval : ∀ (j : Nat) t v, Tryz.f4.params[j]? = some t → args[j]? = some v → Value.okWide Tryz.prog W .any base t v := hval0
  have hW' := hW
  obtain ⟨p, q, hA0, hV, rfl, _, _⟩ := hW
  have hA : DataW.TrodAll enc Tryz.prog W 0 (fun _ => true) true Tryz.f4.params.toList args.toList ds p := hA0
  have hAk := hA
  obtain ⟨rfl, rfl⟩ := trodVars_none hV
  simp only [List.append_nil] at hW'
  have hlt : ∀ x ∈ p, x.block < W.heap.size := fun x hx => by simpa using hW'.lt x hx
  rw [Tryz.params4] at hA hval
  obtain ⟨v0, vs0, d0, ds0, p0, q0, hargs, rfl, rfl, h0, r0⟩ := trodAll_cons hA
  obtain ⟨v1, vs1, d1, ds1, p1, q1, rfl, rfl, rfl, h1, r1⟩ := trodAll_cons r0
  obtain ⟨v2, vs2, d2, ds2, p2, q2, rfl, rfl, rfl, h2, r2⟩ := trodAll_cons r1
  obtain ⟨rfl, rfl, rfl⟩ := trodAll_nil r2
  obtain rfl : args = #[v0, v1, v2] := by cases args; simp_all
  have hz : (DataW.weightsEach Tryz.prog (Tryz.f4.params.toList ++ Rows.expandSetsSpec.plain.varTypes Tryz.prog) (_ ++ _)).all (· ≤ reachBytes) = true := hz0
  rw [Tryz.params4] at hz
  obtain ⟨s0, rfl, rfl, rfl, ws0⟩ := ChangeMaps.open_string Tryz.underlying9 (hval 0 9 v0 rfl rfl) h0
  obtain ⟨s1, rfl, rfl, rfl, ws1⟩ := ChangeMaps.open_string Tryz.underlying9 (hval 1 9 v1 rfl rfl) h1
  obtain ⟨x2, rfl, rfl, rfl⟩ := open_bool Tryz.underlying4 (hval 2 4 v2 rfl rfl) h2
  have z0 : s0.size ≤ 140737488355327 := Nat.le_trans (sized_string (j := 0) hz rfl rfl) (by decide)
  have z1 : s1.size ≤ 140737488355327 := Nat.le_trans (sized_string (j := 1) hz rfl rfl) (by decide)
  clear hA0 hval0
  refine (sets_any s0 s1 x2 W z0 z1 (held_of_shape hsh)).mono fun e W' ⟨he, hb⟩ => ?_
  subst he
  exact ⟨_, rfl, law_post rfl rfl rfl (by kernel_rfl) hW' hAk hb⟩

theorem expandSets_row : Rows.ExpandSetsSaid :=
  OpenClaim.holds_of_wide 4 Tryz.f4 rfl rfl rfl rfl rfl rfl rfl ⟨rfl, rfl, rfl, rfl, rfl⟩ rfl rfl rfl rfl rfl (by kernel_rfl) Tryz.func4 (by kernel_rfl)
    (of_decide_eq_true (by kernel_rfl)) (by unfold Func.isWrapper; first | (rw [if_pos (by decide +kernel)]; kernel_rfl) | (rw [if_neg (by decide +kernel)]; exact ⟨rfl, rfl⟩))
    (fun os started H enc _ => expandSets_lifted os started H enc)

theorem expandSets_holds : Rows.ExpandSetsCardSaid :=
  Claim7.holds_tied_plain_at .later [] [.data, .data, .data, .data, .sentinel, .sentinel, .pinned] true (true, "26953628d177bbafa42e1257007d20e76d6f49a19e4b77472a007fea72157505") true expandSets_row (fun _ h => by cases h) (by kernel_rfl) (fun _ h => by cases h) expandSets_row_tie rfl ⟨rfl, rfl⟩ (by kernel_rfl) rfl
    (fun f fn hf hfn => by
      obtain rfl : f = 4 := Option.some.inj ((show Tryz.prog.funcNamed "seabag/seabaglaw20.ExpandSets" = some 4 by kernel_rfl).symm.trans hf) |>.symm
      obtain rfl : fn = Tryz.f4 := (Option.some.inj (Tryz.func4.symm.trans hfn)).symm
      exact ⟨by kernel_rfl, fun j t ht => by
        rw [Tryz.params4] at ht
        have hm : t ∈ [9, 9, 4] := by simpa using Array.mem_of_getElem? ht
        have hall : ([9, 9, 4].all fun u => !Tryz.prog.wantsStandIn u) = true := by kernel_rfl
        exact (show Tryz.prog.wantsStandIn t = false by simpa using List.all_eq_true.1 hall t hm)⟩)
    (by kernel_rfl)

#print axioms expandSets_holds
end Go.Proofs.YtjeinpadcknfbaaGreatDoor
