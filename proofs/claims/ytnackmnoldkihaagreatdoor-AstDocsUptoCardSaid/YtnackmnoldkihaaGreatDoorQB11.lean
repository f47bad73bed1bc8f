/-
  The walk of the copy of a word.
-/
import Derived.Test.YtnackmnoldkihaaGreatDoorQB10
import Derived.Test.YtnackmnoldkihaaGreatDoorQB5
import Derived.Test.YtnackmnoldkihaaGreatDoorQB7
import Derived.Deep.RegionHeld3
import Derived.Test.YtnackmnoldkihaaGreatDoorQB3
import Derived.Test.YtnackmnoldkihaaGreatDoorQB9
set_option linter.unusedVariables false
set_option linter.unusedSimpArgs false
/-
  The walk of Show.
-/
namespace Go.Proofs.YtnackmnoldkihaaGreatDoor
open Go.RowKit

set_option maxHeartbeats 1000000 in
set_option maxRecDepth 100000 in
theorem show_any (d : Nat) (l : List Nd) (v : Value) (w : World) (hH : Hd w w.heap.size) (hl : NdsIn w w.heap.size d l v) (hf : (levF d).2.1 l = true) (hne : showL d l ≠ []) (hlen : (showL d l).length ≤ lim) :
    Calls Tryz.prog 33 #[v] w fun e w' => e = .returned (.string (S (showL d l))) ∧ Below w.heap.size w w' := by
  obtain ⟨a, cap, rfl, _⟩ := hl.shape
  obtain ⟨W, hW⟩ : ∃ W, W = w.alloc (.cells #[.pointer none, .slice none 0 0, .slice none 0 0] 84) := ⟨_, rfl⟩
  have hbl : Below w.heap.size w W := by rw [hW]; exact (Below.refl _ _).alloc (Nat.le_refl _) _
  have hwr : Wr W w.heap.size w.heap.size (.slice none 0 0) [] [] := ⟨Nat.le_refl _, ⟨.slice none 0 0, .pointer none, by rw [hW]; exact Blk.new _ _ _, .inl rfl, OwnB.nil _ _⟩, World.ownsRow_nil _ _ _ _, fun r hr => by simp at hr, Nat.le_refl _⟩
  have CL := Lib.hid ((levW d).2.1 W w.heap.size w.heap.size _ [] [] l _ (hH.below hbl) hwr (hl.below hbl) hf hlen)
  have HNE := Lib.hid hne
  have HBL := Lib.hid hbl
  have HW := Lib.hid hW
  clear hH hl hf hne hlen hW hbl hwr
  go_enter Tryz.func33, Tryz.ntmps33
  go_wp2_with fail
  rw [← HW.out]
  refine CL.out.mono ?_
  rintro e w1 ⟨rfl, hs⟩
  have hlow := hs.low
  obtain ⟨dv, ds, h1, h2, h3⟩ := shown_st hs
  have CS := Lib.hid (string_any h1 HNE.out)
  have HB1 := Lib.hid (HBL.out.trans hlow)
  clear hs h1 h2 h3 hlow
  go_wp2_with fail
  refine CS.out.mono ?_
  rintro e w2 ⟨rfl, hb⟩
  have HB2 := Lib.hid (HB1.out.trans hb)
  clear hb
  go_wp2_with fail
  go_ret
  exact ⟨rfl, HB2.out⟩
end Go.Proofs.YtnackmnoldkihaaGreatDoor
/-
  What is right can be shown.
-/
namespace Go.Proofs.YtnackmnoldkihaaGreatDoor
open Go.RowKit

theorem all_of {α : Type} {f g : α → Bool} {l : List α} (h : l.all f = true) (hf : ∀ x, f x = true → g x = true) : l.all g = true :=
  List.all_eq_true.2 fun x hx => hf x (List.all_eq_true.1 h x hx)
section
variable {wd : List Pt → Bool} {ls : List Nd → Bool} {fw : List Pt → Bool} {fl : List Nd → Bool} {fn : Nd → Bool} (hw : ∀ y, wd y = true → fw y = true) (hl : ∀ y, ls y = true → fl y = true) (hn : ∀ y, ls y = true → y.all fn = true)
include hw
theorem redirF_ok {r : Rd} (h : redirB wd r = true) : redirF fw r = true := by
  rw [redirB, Bool.and_eq_true] at h
  rw [redirF, Bool.and_eq_true]
  refine ⟨h.1, ?_⟩
  have h2 := h.2
  cases hop : (L r.op == [60, 60]) with
  | true =>
    rw [hop, cond_true, docB] at h2
    simp only [Bool.and_eq_true] at h2
    exact hw _ h2.2.1
  | false =>
    rw [hop, cond_false] at h2
    simp only [Bool.and_eq_true] at h2
    exact hw _ h2.2.2.1
include hl hn
theorem nodeF_of {x : Nd} (hsh : shapeF x = true) (ha : x.assigns.all (fun a => wd a.word) = true) (hws : x.words.all (someB wd) = true) (hr : x.redirs.all (redirB wd) = true) (hls : x.lists.all (somesB ls) = true) (hm : x.arms.all (armB wd ls) = true) : nodeF fw fl fn x = true := by
  simp only [nodeF, Bool.and_eq_true]
  refine ⟨hsh, all_of ha fun a h => hw _ h, all_of hws fun y h => ?_, all_of hr fun r h => redirF_ok hw h, all_of hls fun y h => ?_, all_of hls fun y h => ?_, all_of hm fun a h => ?_⟩
  · rw [someB, Bool.and_eq_true] at h; exact hw _ h.1
  · rw [somesB, Bool.and_eq_true] at h; exact hl _ h.1
  · rw [somesB, Bool.and_eq_true] at h; exact hn _ h.1
  · simp only [armB, Bool.and_eq_true] at h
    rw [Bool.and_eq_true]
    exact ⟨all_of h.2.2 fun y h => by rw [someB, Bool.and_eq_true] at h; exact hw _ h.1, hl _ h.2.1⟩
omit hw hl hn
theorem all_empty {α : Type} {l : List α} {f : α → Bool} (h : l.isEmpty = true) : l.all f = true := by cases l with | nil => rfl | cons => simp at h
theorem lists_full {x : Nd} (h : x.lists.all (somesB ls) = true) : x.lists.all (fun l => !l.isEmpty) = true := all_of h fun y h => by rw [somesB, Bool.and_eq_true] at h; exact h.2
theorem sole_head {may : Nat → Int → Bool} {i : Nat} {l : List (List Nd)} (h : soleB may i l = true) (h1 : 1 ≤ l.length) : ∃ y r, l = y :: r ∧ (!y.isEmpty) = true := by
  cases l with
  | nil => simp at h1
  | cons y r =>
    refine ⟨y, r, rfl, ?_⟩
    cases y with
    | nil => simp [soleB] at h
    | cons => rfl
include hw hl hn
theorem nodeF_ok {x : Nd} (h : nodeB wd ls x = true) : nodeF fw fl fn x = true := by
  rw [nodeB, Bool.and_eq_true, Bool.and_eq_true] at h
  obtain ⟨hws, hr, h⟩ := h
  cases k1 : (x.kind == 1) with
  | true =>
    rw [k1, cond_true] at h
    simp only [simpleB, Bool.and_eq_true] at h
    obtain ⟨ha, _, _, ⟨hle, hae⟩, _⟩ := h
    exact nodeF_of hw hl hn (by rw [shapeF, k1]; rfl) (all_of ha fun a h => by rw [Bool.and_eq_true] at h; exact h.2) hws hr (all_empty hle) (all_empty hae)
  | false =>
  rw [k1, cond_false] at h
  cases kj : ((x.kind == 2 || x.kind == 3) || (x.kind == 4 || x.kind == 5)) with
  | true =>
    rw [kj, cond_true] at h
    simp only [joinedB, bareN, Bool.and_eq_true] at h
    obtain ⟨⟨⟨_, ha, _, hm⟩, _⟩, h⟩ := h
    cases k2 : (x.kind == 2) with
    | true =>
      rw [k2, cond_true] at h
      simp only [aloneB, Bool.and_eq_true] at h
      exact nodeF_of hw hl hn (by rw [shapeF, k1, k2]; exact lists_full h.2.1) (all_empty ha) hws hr h.2.1 (all_empty hm)
    | false =>
    rw [k2, cond_false] at h
    cases k5 : (x.kind == 5) with
    | true =>
      rw [k5, cond_true] at h
      simp only [aloneB, Bool.and_eq_true] at h
      have k3 : (x.kind == 3) = false := by rw [eq_of_beq k5]; rfl
      have k4 : (x.kind == 4) = false := by rw [eq_of_beq k5]; rfl
      exact nodeF_of hw hl hn (by obtain ⟨y, r, hq, hy⟩ := sole_head h.2.2.2 (of_decide_eq_true h.2.1); rw [shapeF, k1, k2, k3, k4, k5, hq]; exact hy) (all_empty ha) hws hr h.2.2.1 (all_empty hm)
    | false =>
      rw [k5, cond_false] at h
      simp only [aloneB, Bool.and_eq_true] at h
      have k34 : ((x.kind == 2 || x.kind == 3) || x.kind == 4) = true := by rw [k5] at kj; simpa using kj
      exact nodeF_of hw hl hn (by rw [shapeF, k1, k34]; exact lists_full h.2.2.1) (all_empty ha) hws hr h.2.2.1 (all_empty hm)
  | false =>
    rw [kj, cond_false] at h
    have k234 : ((x.kind == 2 || x.kind == 3) || x.kind == 4) = false := by
      simp only [Bool.or_eq_false_iff] at kj ⊢; exact ⟨kj.1, kj.2.1⟩
    have k5 : (x.kind == 5) = false := by simp only [Bool.or_eq_false_iff] at kj; exact kj.2.2
    have lenOf : ∀ {q : Nat}, listsB ls x q = true → x.lists.length = q ∧ x.lists.all (somesB ls) = true := fun h => by
      rw [listsB, Bool.and_eq_true] at h; exact ⟨of_decide_eq_true h.1, h.2⟩
    rw [compoundB] at h
    cases k6 : (x.kind == 6) with
    | true =>
      have k11 : (x.kind == 11) = false := by rw [eq_of_beq k6]; rfl
      rw [k6, cond_true] at h
      simp only [bareN, Bool.and_eq_true, Bool.or_eq_true] at h
      obtain ⟨⟨_, ha, _, hm⟩, h⟩ := h
      have h2 : 2 ≤ x.lists.length ∧ x.lists.all (somesB ls) = true := by
        rcases h with h | h <;> (have := lenOf h; exact ⟨by omega, this.2⟩)
      exact nodeF_of hw hl hn (by rw [shapeF, k1, k234, k5, k11, k6]; exact decide_eq_true h2.1) (all_empty ha) hws hr h2.2 (all_empty hm)
    | false =>
    rw [k6, cond_false] at h
    cases k78 : (x.kind == 7 || x.kind == 8) with
    | true =>
      have k11 : (x.kind == 11) = false := by
        rw [Bool.or_eq_true] at k78; rcases k78 with k | k <;> (rw [eq_of_beq k]; rfl)
      rw [k78, cond_true] at h
      simp only [bareN, Bool.and_eq_true] at h
      obtain ⟨⟨_, ha, _, hm⟩, h⟩ := h
      have h2 := lenOf h
      exact nodeF_of hw hl hn (by rw [shapeF, k1, k234, k5, k11, k6, k78]; exact decide_eq_true (by omega)) (all_empty ha) hws hr h2.2 (all_empty hm)
    | false =>
    rw [k78, cond_false] at h
    cases kc : (x.kind == 12 || x.kind == 13) with
    | true =>
      have k11 : (x.kind == 11) = false := by
        rw [Bool.or_eq_true] at kc; rcases kc with k | k <;> (rw [eq_of_beq k]; rfl)
      have k10 : (x.kind == 10) = false := by
        rw [Bool.or_eq_true] at kc; rcases kc with k | k <;> (rw [eq_of_beq k]; rfl)
      rw [kc, cond_true] at h
      simp only [bareN, Bool.and_eq_true] at h
      obtain ⟨⟨_, ha, _, hm⟩, h⟩ := h
      have h2 := lenOf h
      exact nodeF_of hw hl hn (by rw [shapeF, k1, k234, k5, k11, k6, k78, k10]; exact decide_eq_true (by omega)) (all_empty ha) hws hr h2.2 (all_empty hm)
    | false =>
    rw [kc, cond_false] at h
    cases k9 : (x.kind == 9) with
    | true =>
      have k11 : (x.kind == 11) = false := by rw [eq_of_beq k9]; rfl
      have k10 : (x.kind == 10) = false := by rw [eq_of_beq k9]; rfl
      rw [k9, cond_true] at h
      simp only [Bool.and_eq_true] at h
      obtain ⟨_, ⟨ha, hm⟩, h⟩ := h
      have h2 := lenOf h
      exact nodeF_of hw hl hn (by rw [shapeF, k1, k234, k5, k11, k6, k78, k10]; exact decide_eq_true (by omega)) (all_empty ha) hws hr h2.2 (all_empty hm)
    | false =>
    rw [k9, cond_false] at h
    cases k10 : (x.kind == 10) with
    | true =>
      have k11 : (x.kind == 11) = false := by rw [eq_of_beq k10]; rfl
      rw [k10, cond_true] at h
      simp only [Bool.and_eq_true] at h
      obtain ⟨_, ha, hw1, h, hm⟩ := h
      have h2 := lenOf h
      have hw2 := of_decide_eq_true hw1
      exact nodeF_of hw hl hn (by rw [shapeF, k1, k234, k5, k11, k6, k78, k10]; cases hq : x.words with | nil => rw [hq] at hw2; simp at hw2 | cons => rfl) (all_empty ha) hws hr h2.2 hm
    | false =>
    rw [k10, cond_false] at h
    cases k11 : (x.kind == 11) with
    | true =>
      rw [k11, cond_true] at h
      simp only [aloneB, Bool.and_eq_true] at h
      obtain ⟨_, _, ⟨ha, _, hm, _⟩, _, hc, hls, hs⟩ := h
      exact nodeF_of hw hl hn (by obtain ⟨y, r, hq, hy⟩ := sole_head hs (of_decide_eq_true hc); rw [shapeF, k1, k234, k5, k11, hq]; exact hy) (all_empty ha) hws hr hls (all_empty hm)
    | false =>
      rw [k11, cond_false] at h
      exact Bool.noConfusion h
end

theorem partF_ok {wd : List Pt → Bool} {ls : List Nd → Bool} {fw : List Pt → Bool} {fl : List Nd → Bool} (hw : ∀ y, wd y = true → fw y = true) (hl : ∀ y, ls y = true → fl y = true) (h0 : fw [] = true) (h1 : fl [] = true) {q : Option Pt} {p : Pt} (h : partB wd ls q p = true) (hlit : p.kind = 1 → p.word = [] ∧ p.body = []) : partF fw fl p = true := by
  have e0 : ∀ {l : List Pt}, l.isEmpty = true → fw l = true := fun h => by rw [List.isEmpty_iff] at h; rw [h]; exact h0
  have e1 : ∀ {l : List Nd}, l.isEmpty = true → fl l = true := fun h => by rw [List.isEmpty_iff] at h; rw [h]; exact h1
  rw [partB, Bool.and_eq_true] at h
  rw [partF, Bool.and_eq_true]
  have h := h.2
  cases k1 : (p.kind == 1) with
  | true =>
    obtain ⟨a, b⟩ := hlit (eq_of_beq k1)
    rw [a, b]; exact ⟨h0, h1⟩
  | false =>
  rw [k1, cond_false] at h
  cases k2 : (p.kind == 2) with
  | true =>
    rw [k2, cond_true, paramB, Bool.and_eq_true] at h
    have hb : p.body.isEmpty = true := by
      have h3 := h.1
      cases hq : p.body.isEmpty with
      | true => rfl
      | false => rw [hq] at h3; simp at h3
    refine ⟨?_, e1 hb⟩
    have h3 := h.2
    cases ho : (L p.op).isEmpty with
    | true => rw [ho, cond_true] at h3; exact e0 h3
    | false =>
    rw [ho, cond_false] at h3
    cases h5 : (L p.op == [108, 101, 110]) with
    | true => rw [h5, cond_true, Bool.and_eq_true] at h3; exact e0 h3.2
    | false =>
      rw [h5, cond_false] at h3
      simp only [Bool.and_eq_true] at h3
      exact hw _ h3.2.2.2
  | false =>
  rw [k2, cond_false] at h
  cases k3 : (p.kind == 3) with
  | true =>
    rw [k3, cond_true] at h
    simp only [Bool.and_eq_true] at h
    exact ⟨e0 h.2.2.1, hl _ h.2.2.2⟩
  | false =>
  rw [k3, cond_false] at h
  cases k4 : (p.kind == 4) with
  | true =>
    rw [k4, cond_true] at h
    simp only [Bool.and_eq_true] at h
    exact ⟨e0 h.2.2.1, e1 h.2.2.2⟩
  | false => rw [k4, cond_false] at h; exact Bool.noConfusion h
end Go.Proofs.YtnackmnoldkihaaGreatDoor
/-
  What is right can be shown, at every depth.
-/
namespace Go.Proofs.YtnackmnoldkihaaGreatDoor
open Go.RowKit

theorem lit_bare {q : Option Pt} {p : Pt} {wd : List Pt → Bool} {ls : List Nd → Bool} (h : partB wd ls q p = true) (h1 : p.kind = 1) : p.word = [] ∧ p.body = [] := by
  rw [partB, Bool.and_eq_true] at h
  have h := h.2
  rw [show (p.kind == 1) = true by rw [h1]; rfl, cond_true] at h
  simp only [litB, Bool.and_eq_true, List.isEmpty_iff] at h
  exact ⟨h.1.1.2.1, h.1.1.2.2⟩
theorem parts_all {f : Option Pt → Pt → Bool} {g : Pt → Bool} (hf : ∀ q p, f q p = true → g p = true) : ∀ (l : List Pt) (q : Option Pt), partsB f q l = true → l.all g = true
  | [], _, _ => rfl
  | p :: l, q, h => by
    rw [partsB, Bool.and_eq_true] at h
    rw [List.all_cons, Bool.and_eq_true]
    exact ⟨hf _ _ h.1, parts_all hf l _ h.2⟩
theorem okW_nil (n : Nat) : okW n [] = true := by cases n <;> rw [okW] <;> rfl
theorem okL_nil (n : Nat) : okL n [] = true := by cases n <;> rw [okL] <;> rfl
theorem okL_all {n : Nat} {l : List Nd} {g : Nd → Bool} (h : okL n l = true) (hg : ∀ m, n = m + 1 → ∀ x, nodeB (okW m) (okL m) x = true → g x = true) : l.all g = true := by
  cases n with
  | zero => rw [okL, List.isEmpty_iff] at h; rw [h]; rfl
  | succ m => rw [okL] at h; exact all_of h (hg m rfl)
/-- Of what is right all can be shown. -/
theorem right_lev : ∀ d n, (∀ y, okW n y = true → (levF d).1 y = true) ∧ (∀ l, okL n l = true → (levF d).2.1 l = true) ∧ (∀ l, okL n l = true → l.all (levF d).2.2 = true)
  | 0, n => ⟨fun _ _ => rfl, fun _ _ => rfl, fun l h => okL_all h fun m _ x hx => nodeF_ok (wd := okW m) (ls := okL m) (fun _ _ => rfl) (fun _ _ => rfl) (fun y _ => List.all_eq_true.2 fun _ _ => rfl) hx⟩
  | d + 1, n => by
    have h1 : ∀ n y, okW n y = true → (levF (d + 1)).1 y = true := fun n y h => by
      show y.all (partF (levF d).1 (levF d).2.1) = true
      cases n with
      | zero => rw [okW, List.isEmpty_iff] at h; rw [h]; rfl
      | succ m =>
        rw [okW] at h
        obtain ⟨g1, g2, _⟩ := right_lev d m
        exact parts_all (fun q p hp => partF_ok g1 g2 (g1 _ (okW_nil m)) (g2 _ (okL_nil m)) hp (lit_bare hp)) y _ h
    have h2 : ∀ n l, okL n l = true → (levF (d + 1)).2.1 l = true := fun n l h => (right_lev d n).2.2 l h
    exact ⟨h1 n, h2 n, fun l h => okL_all h fun m _ x hx => nodeF_ok (h1 m) (h2 m) (right_lev d m).2.2 hx⟩
theorem right_shows (d n : Nat) (l : List Nd) (h : okL n l = true) : (levF d).2.1 l = true := (right_lev d n).2.1 l h
/-- What is shown of commands is not empty. -/
theorem show_ne (d : Nat) (l : List Nd) (hd : l ≠ []) : showL (d + 1) l ≠ [] := by
  cases l with
  | nil => exact absurd rfl hd
  | cons x r =>
    intro h
    have h1 : (lineS ((levS d).2.2 ([], []) x)).1.length ≤ (showL (d + 1) (x :: r)).length :=
      fold_grow (f := fun s x => lineS ((levS d).2.2 s x)) (fun s x => Nat.le_trans ((levS_grow d).2.2 s x) (lineS_grow _)) r (lineS ((levS d).2.2 ([], []) x))
    rw [h] at h1
    simp [lineS] at h1
end Go.Proofs.YtnackmnoldkihaaGreatDoor
/-
  The walk of Show of no commands.
-/
namespace Go.Proofs.YtnackmnoldkihaaGreatDoor
open Go.RowKit

set_option maxHeartbeats 1000000 in
set_option maxRecDepth 100000 in
theorem wlist_nil (p : Value) (a : Option Addr) (cap : Nat) (W : World) :
    Calls Tryz.prog 48 #[p, .slice a 0 cap] W fun e w' => e = .returned (.tuple #[]) ∧ Below W.heap.size W w' := by
  go_enter Tryz.func48, Tryz.ntmps48
  go_wp2_with fail
  refine wp_loop_rounds 1 ?_
  rw [rounds_succ]
  go_wp2_with fail
  go_end0
  exact ⟨rfl, (by repeat' (first | (with_reducible assumption) | (with_reducible exact Below.refl _ _) | (with_reducible refine below_drewN ?_ _) | (with_reducible refine below_bytes ?_ ?_ _) | (with_reducible refine Below.alloc ?_ ?_ _) | (with_reducible refine Below.drew ?_) | (with_reducible refine Below.setCell ?_ ?_ _) | go_size))⟩
set_option maxHeartbeats 1000000 in
set_option maxRecDepth 100000 in
theorem string_nil {W : World} {B b : Nat} {p dv : Value} (hbk : W.heap[b]? = some (.cells #[p, .slice none 0 0, dv] 84 (0, 0))) (hB : B ≤ W.heap.size) :
    Calls Tryz.prog 49 #[.pointer (some ⟨b, 0, none⟩)] W fun e w' => e = .returned (.string ByteArray.empty) ∧ Below B W w' := by
  have c1 : W.drew.cell? ⟨b, 1, none⟩ = some (.slice none 0 0) := by
    have : W.drew.heap[b]? = some (.cells #[p, .slice none 0 0, dv] 84 (0, 0)) := hbk
    rw [Lib.cell_of_heap this]; rfl
  have hSD : (Builtin.unsafeSliceData_ #[76] 107 #[.slice none 0 0]).run Tryz.prog W.drew = .ok (.pointer none) W.drew := rfl
  have hUS : (Builtin.unsafeString_ #[107, 3] 9 #[.pointer none, .int .i64 0]).run Tryz.prog W.drew = .ok (.string ByteArray.empty) W.drew := by rfl
  clear hbk hB
  go_enter Tryz.func49, Tryz.ntmps49
  go_wp2
  go_region
  all_goals (go_wp2; go_ret; exact ⟨rfl, Below.drew (Below.refl B W)⟩)
set_option maxHeartbeats 1000000 in
set_option maxRecDepth 100000 in
theorem show_nil (a : Option Addr) (cap : Nat) (w : World) :
    Calls Tryz.prog 33 #[.slice a 0 cap] w fun e w' => e = .returned (.string ByteArray.empty) ∧ Below w.heap.size w w' := by
  obtain ⟨W, hW⟩ : ∃ W, W = w.alloc (.cells #[.pointer none, .slice none 0 0, .slice none 0 0] 84) := ⟨_, rfl⟩
  have HK : Hid (Blk W w.heap.size 84 #[.pointer none, .slice none 0 0, .slice none 0 0]) := Lib.hid (by rw [hW]; exact Blk.new _ _ _)
  have HBL : Hid (Below w.heap.size w W) := Lib.hid (by rw [hW]; exact (Below.refl _ _).alloc (Nat.le_refl _) _)
  have CL := Lib.hid (wlist_nil (.pointer (some ⟨w.heap.size, 0, none⟩)) a cap W)
  have HW := Lib.hid hW
  clear hW
  go_enter Tryz.func33, Tryz.ntmps33
  go_wp2_with fail
  rw [← HW.out]
  refine CL.out.mono ?_
  rintro e w1 ⟨rfl, hlow⟩
  have HB1 : Hid (Below w.heap.size w w1) := Lib.hid (HBL.out.trans (hlow.mono HBL.out.size))
  have CS := Lib.hid (string_nil (B := w.heap.size) (HK.out.below hlow HK.out.lt) HB1.out.size)
  clear hlow
  go_wp2_with fail
  refine CS.out.mono ?_
  rintro e w2 ⟨rfl, hb⟩
  have HB2 := Lib.hid (HB1.out.trans hb)
  clear hb
  go_wp2_with fail
  go_ret
  exact ⟨rfl, HB2.out⟩
end Go.Proofs.YtnackmnoldkihaaGreatDoor
/-
  Show of what is right.
-/
namespace Go.Proofs.YtnackmnoldkihaaGreatDoor
open Go.RowKit

theorem showL_nil (d : Nat) : showL d [] = [] := by cases d <;> rfl
theorem show_right (d n : Nat) (l : List Nd) (v : Value) (w : World) (hH : Hd w w.heap.size) (hl : NdsIn w w.heap.size d l v) (h : okL n l = true) (hlen : (showL d l).length ≤ lim) :
    Calls Tryz.prog 33 #[v] w fun e w' => e = .returned (.string (S (showL d l))) ∧ Below w.heap.size w w' := by
  cases l with
  | nil =>
    obtain ⟨a, cap, rfl, _⟩ := hl.shape
    rw [showL_nil]
    exact show_nil a cap w
  | cons x r =>
    cases d with
    | zero =>
      rw [NdsIn] at hl
      have e := hl.zero
      simp at e
    | succ d => exact show_any (d + 1) _ v w hH hl (right_shows _ n _ h) (show_ne d _ (by simp)) hlen
end Go.Proofs.YtnackmnoldkihaaGreatDoor
/-
  The anchor's commands, as they lie.
-/
namespace Go.Proofs.YtnackmnoldkihaaGreatDoor
open Go.RowKit

theorem Sl.blk {w : World} {g B n size : Nat} {t : TypeId} {cs : Array Value} (h : Blk w g t cs) (hs : cs.size = n * size) (hn : n ≤ maxLen) (hB : g < B) : Sl w B size (.slice (some ⟨g, 0, none⟩) n n) n cs.toList := by
  refine ⟨by simp [hs], some ⟨g, 0, none⟩, n, rfl, Nat.le_refl _, hn, .inr ⟨g, 0, rfl, hB, ?_⟩⟩
  intro j _
  rw [Nat.zero_add, h.cell j]
  simp
def litP (q : Bool) (t : ByteArray) : Pt := .mk 1 q t ByteArray.empty [] []
def anchorN : Nd := .mk 1 ByteArray.empty [] [[litP false ⟨#[101, 99, 104, 111]⟩], [litP true ⟨#[97, 32, 98]⟩]] [⟨1, ⟨#[62]⟩, ByteArray.empty, [litP false ⟨#[120]⟩]⟩] [] []
theorem anchor_ok : okL 2 [anchorN] = true := by decide +kernel
theorem anchor_show : showL 2 [anchorN] = [101, 99, 104, 111, 32, 39, 97, 32, 98, 39, 32, 49, 62, 120, 10] := by decide +kernel
theorem SlOf.nil {α : Type} {w : World} {B size : Nat} {F : α → List Value → Prop} : SlOf w B size F [] (.slice none 0 0) :=
  ⟨Nat.zero_le _, [], rfl, fun c hc => by simp at hc, Sl.nil w B size, fun i x c hx => by simp at hx⟩
theorem SlOf.one {α : Type} {w : World} {B size g : Nat} {t : TypeId} {cs : Array Value} {F : α → List Value → Prop} {x : α} (h : Blk w g t cs) (hs : cs.size = size) (hB : g < B) (hF : F x cs.toList) : SlOf w B size F [x] (.slice (some ⟨g, 0, none⟩) 1 1) := by
  refine ⟨(by simp [bigN] : [x].length ≤ bigN), [cs.toList], rfl, fun c hc => by simp at hc; rw [hc]; simpa using hs, ?_, fun i y c hy hc => ?_⟩
  · have h1 := Sl.blk (n := 1) (size := size) h (by omega) (by decide) hB
    simpa using h1
  · cases i with
    | zero => simp at hy hc; subst hy; subst hc; exact hF
    | succ i => simp at hy
theorem pts_nil (w : World) (B d : Nat) : PtsIn w B d [] (.slice none 0 0) := by cases d <;> (rw [PtsIn]; exact SlOf.nil)
theorem nds_nil (w : World) (B d : Nat) : NdsIn w B d [] (.slice none 0 0) := by cases d <;> (rw [NdsIn]; exact SlOf.nil)
theorem lit_in {w : World} {B g d : Nat} {q : Bool} {t : ByteArray} (h : Blk w g 44 #[.int .i64 1, .bool q, .string t, .string ByteArray.empty, .slice none 0 0, .slice none 0 0]) (ht : t.size ≤ bigN) (hB : g < B) : PtsIn w B (d + 1) [litP q t] (.slice (some ⟨g, 0, none⟩) 1 1) := by
  rw [PtsIn.succ]
  exact SlOf.one h rfl hB ⟨ht, Nat.zero_le _, _, _, rfl, pts_nil w B d, nds_nil w B d⟩
theorem anchor_in {w : World} {B g0 g1 g2 g3 g4 g6 : Nat}
    (h0 : Blk w g0 44 #[.int .i64 1, .bool false, .string ⟨#[101, 99, 104, 111]⟩, .string ByteArray.empty, .slice none 0 0, .slice none 0 0])
    (h1 : Blk w g1 44 #[.int .i64 1, .bool true, .string ⟨#[97, 32, 98]⟩, .string ByteArray.empty, .slice none 0 0, .slice none 0 0])
    (h2 : Blk w g2 29 #[.slice (some ⟨g0, 0, none⟩) 1 1, .slice (some ⟨g1, 0, none⟩) 1 1])
    (h3 : Blk w g3 44 #[.int .i64 1, .bool false, .string ⟨#[120]⟩, .string ByteArray.empty, .slice none 0 0, .slice none 0 0])
    (h4 : Blk w g4 31 #[.int .i64 1, .string ⟨#[62]⟩, .string ByteArray.empty, .slice (some ⟨g3, 0, none⟩) 1 1])
    (h6 : Blk w g6 38 #[.int .i64 1, .string ByteArray.empty, .slice none 0 0, .slice (some ⟨g2, 0, none⟩) 2 2, .slice (some ⟨g4, 0, none⟩) 1 1, .slice none 0 0, .slice none 0 0])
    (b0 : g0 < B) (b1 : g1 < B) (b2 : g2 < B) (b3 : g3 < B) (b4 : g4 < B) (b6 : g6 < B) : NdsIn w B 2 [anchorN] (.slice (some ⟨g6, 0, none⟩) 1 1) := by
  rw [NdsIn.succ]
  refine SlOf.one h6 rfl b6 ⟨by decide, _, _, _, _, _, rfl, SlOf.nil, ?_, ?_, SlOf.nil, SlOf.nil⟩
  · refine ⟨by decide, [[.slice (some ⟨g0, 0, none⟩) 1 1], [.slice (some ⟨g1, 0, none⟩) 1 1]], rfl, fun c hc => by simp at hc; rcases hc with rfl | rfl <;> rfl, Sl.blk (n := 2) (size := 1) h2 rfl (by decide) b2, fun i y c hy hc => ?_⟩
    match i, hy, hc with
    | 0, hy, hc => cases hy; cases hc; exact ⟨_, rfl, lit_in h0 (by decide) b0⟩
    | 1, hy, hc => cases hy; cases hc; exact ⟨_, rfl, lit_in h1 (by decide) b1⟩
  · exact SlOf.one h4 rfl b4 ⟨by decide, by decide, by decide, _, rfl, lit_in h3 (by decide) b3⟩
end Go.Proofs.YtnackmnoldkihaaGreatDoor
/-
  The walk of the anchor.
-/
namespace Go.Proofs.YtnackmnoldkihaaGreatDoor
open Go.RowKit

set_option maxHeartbeats 2000000 in
set_option maxRecDepth 100000 in
theorem anchor_any (w : World) (hv : Held w) (hH : Hd w w.heap.size) :
    Calls Tryz.prog 7 #[] w fun e w' => e = .returned (.bool true) ∧ Below w.heap.size w w' := by
  obtain ⟨U0, hU0⟩ : ∃ U0, U0 = ((((((w.alloc (.cells #[.int .i64 1, .bool false, .string ⟨#[101, 99, 104, 111]⟩, .string ⟨#[]⟩, .slice none 0 0, .slice none 0 0] 44)).alloc (.cells #[.int .i64 1, .bool true, .string ⟨#[97, 32, 98]⟩, .string ⟨#[]⟩, .slice none 0 0, .slice none 0 0] 44)).alloc (.cells #[.slice (some ⟨w.heap.size, 0, none⟩) 1 1, .slice (some ⟨w.heap.size + 1, 0, none⟩) 1 1] 29)).alloc (.cells #[.int .i64 1, .bool false, .string ⟨#[120]⟩, .string ⟨#[]⟩, .slice none 0 0, .slice none 0 0] 44)).alloc (.cells #[.int .i64 1, .string ⟨#[62]⟩, .string ⟨#[]⟩, .slice (some ⟨w.heap.size + 1 + 1 + 1, 0, none⟩) 1 1] 31)).alloc (.cells #[.int .i64 1, .string ⟨#[]⟩, .slice none 0 0, .slice (some ⟨w.heap.size + 1 + 1, 0, none⟩) 2 2, .slice (some ⟨w.heap.size + 1 + 1 + 1 + 1, 0, none⟩) 1 1, .slice none 0 0, .slice none 0 0] 38)) := ⟨_, rfl⟩
  obtain ⟨U, hU⟩ : ∃ U, U = U0.alloc (.cells #[.int .i64 1, .string ⟨#[]⟩, .slice none 0 0, .slice (some ⟨w.heap.size + 1 + 1, 0, none⟩) 2 2, .slice (some ⟨w.heap.size + 1 + 1 + 1 + 1, 0, none⟩) 1 1, .slice none 0 0, .slice none 0 0] 38) := ⟨_, rfl⟩
  have hz : U.heap.size = w.heap.size + 1 + 1 + 1 + 1 + 1 + 1 + 1 := by rw [hU, hU0]; simp
  have h0 : Blk U w.heap.size 44 #[.int .i64 1, .bool false, .string ⟨#[101, 99, 104, 111]⟩, .string ByteArray.empty, .slice none 0 0, .slice none 0 0] := by rw [hU, hU0]; exact ((((((Blk.at rfl).alloc _).alloc _).alloc _).alloc _).alloc _).alloc _
  have h1 : Blk U (w.heap.size + 1) 44 #[.int .i64 1, .bool true, .string ⟨#[97, 32, 98]⟩, .string ByteArray.empty, .slice none 0 0, .slice none 0 0] := by rw [hU, hU0]; exact (((((Blk.at (by simp)).alloc _).alloc _).alloc _).alloc _).alloc _
  have h2 : Blk U (w.heap.size + 1 + 1) 29 #[.slice (some ⟨w.heap.size, 0, none⟩) 1 1, .slice (some ⟨w.heap.size + 1, 0, none⟩) 1 1] := by rw [hU, hU0]; exact ((((Blk.at (by simp)).alloc _).alloc _).alloc _).alloc _
  have h3 : Blk U (w.heap.size + 1 + 1 + 1) 44 #[.int .i64 1, .bool false, .string ⟨#[120]⟩, .string ByteArray.empty, .slice none 0 0, .slice none 0 0] := by rw [hU, hU0]; exact (((Blk.at (by simp)).alloc _).alloc _).alloc _
  have h4 : Blk U (w.heap.size + 1 + 1 + 1 + 1) 31 #[.int .i64 1, .string ⟨#[62]⟩, .string ByteArray.empty, .slice (some ⟨w.heap.size + 1 + 1 + 1, 0, none⟩) 1 1] := by rw [hU, hU0]; exact ((Blk.at (by simp)).alloc _).alloc _
  have h6 : Blk U (w.heap.size + 1 + 1 + 1 + 1 + 1 + 1) 38 #[.int .i64 1, .string ByteArray.empty, .slice none 0 0, .slice (some ⟨w.heap.size + 1 + 1, 0, none⟩) 2 2, .slice (some ⟨w.heap.size + 1 + 1 + 1 + 1, 0, none⟩) 1 1, .slice none 0 0, .slice none 0 0] := by rw [hU, hU0]; exact Blk.at (by simp)
  have hbU : Below w.heap.size w U := by rw [hU, hU0]; exact (by repeat' (first | (with_reducible assumption) | (with_reducible exact Below.refl _ _) | (with_reducible refine below_drewN ?_ _) | (with_reducible refine below_bytes ?_ ?_ _) | (with_reducible refine Below.alloc ?_ ?_ _) | (with_reducible refine Below.drew ?_) | (with_reducible refine Below.setCell ?_ ?_ _) | go_size))
  have HIN : Hid (NdsIn U U.heap.size 2 [anchorN] (.slice (some ⟨w.heap.size + 1 + 1 + 1 + 1 + 1 + 1, 0, none⟩) 1 1)) := Lib.hid (anchor_in h0 h1 h2 h3 h4 h6 (by omega) (by omega) (by omega) (by omega) (by omega) (by omega))
  have CR := Lib.hid (right_any [anchorN] _ 2 U 2 (by decide) (hv.below hv.2 hbU) HIN.out)
  rw [show (okL (2 : Int).toNat [anchorN]) = true from anchor_ok] at CR
  have h5 : Blk U (w.heap.size + 1 + 1 + 1 + 1 + 1) 38 #[.int .i64 1, .string ByteArray.empty, .slice none 0 0, .slice (some ⟨w.heap.size + 1 + 1, 0, none⟩) 2 2, .slice (some ⟨w.heap.size + 1 + 1 + 1 + 1, 0, none⟩) 1 1, .slice none 0 0, .slice none 0 0] := by rw [hU, hU0]; exact (Blk.at (by simp)).alloc _
  have HK0 := Lib.hid h0
  have HK1 := Lib.hid h1
  have HK2 := Lib.hid h2
  have HK3 := Lib.hid h3
  have HK4 := Lib.hid h4
  have HK5 := Lib.hid h5
  rw [hU0] at hU
  have HU := Lib.hid hU
  clear hU hU0 h0 h1 h2 h3 h4 h5 h6
  go_enter Tryz.func7, Tryz.ntmps7
  go_wp2_with fail
  rw [← HU.out]
  refine CR.out.mono ?_
  rintro e w1 ⟨rfl, hb1⟩
  have HK := Lib.hid (HK5.out.below hb1 HK5.out.lt)
  obtain ⟨W, hW⟩ : ∃ W, W = w1.alloc (.cells #[.int .i64 1, .string ByteArray.empty, .slice none 0 0, .slice (some ⟨w.heap.size + 1 + 1, 0, none⟩) 2 2, .slice (some ⟨w.heap.size + 1 + 1 + 1 + 1, 0, none⟩) 1 1, .slice none 0 0, .slice none 0 0] 38) := ⟨_, rfl⟩
  have hb2 : Below U.heap.size U W := by rw [hW]; exact hb1.alloc hb1.size _
  have h6 : Blk W w1.heap.size 38 #[.int .i64 1, .string ByteArray.empty, .slice none 0 0, .slice (some ⟨w.heap.size + 1 + 1, 0, none⟩) 2 2, .slice (some ⟨w.heap.size + 1 + 1 + 1 + 1, 0, none⟩) 1 1, .slice none 0 0, .slice none 0 0] := by rw [hW]; exact Blk.new _ _ _
  have hin := anchor_in (B := W.heap.size) (HK0.out.below hb2 HK0.out.lt) (HK1.out.below hb2 HK1.out.lt) (HK2.out.below hb2 HK2.out.lt) (HK3.out.below hb2 HK3.out.lt) (HK4.out.below hb2 HK4.out.lt) h6 (Nat.lt_of_lt_of_le HK0.out.lt hb2.size) (Nat.lt_of_lt_of_le HK1.out.lt hb2.size) (Nat.lt_of_lt_of_le HK2.out.lt hb2.size) (Nat.lt_of_lt_of_le HK3.out.lt hb2.size) (Nat.lt_of_lt_of_le HK4.out.lt hb2.size) h6.lt
  have hbW : Below w.heap.size w W := hbU.trans (hb2.mono hbU.size)
  have CS := Lib.hid (show_right 2 2 [anchorN] _ W (by have := hH.below hbW; exact ⟨this.1, Nat.lt_of_lt_of_le this.2 hbW.size⟩) hin anchor_ok (by rw [anchor_show]; decide))
  rw [anchor_show] at CS
  have HW := Lib.hid hW
  have HBW := Lib.hid hbW
  have hl5 := HK.out.lt
  have p0 := HK.out.cell 0
  have p1 := HK.out.cell 1
  have p2 := HK.out.cell 2
  have p3 := HK.out.cell 3
  have p4 := HK.out.cell 4
  have p5 := HK.out.cell 5
  have p6 := HK.out.cell 6
  have pl := HK.out.lt
  simp at p0 p1 p2 p3 p4 p5 p6
  clear hb1 hb2 h6 hin hbW hW
  go_wp2_with fail
  rw [← HW.out]
  refine CS.out.mono ?_
  rintro e w3 ⟨rfl, hb3⟩
  have HB3 := Lib.hid (HBW.out.trans (hb3.mono HBW.out.size))
  clear hb3
  have hq : ((S [101, 99, 104, 111, 32, 39, 97, 32, 98, 39, 32, 49, 62, 120, 10]).toList == [101, 99, 104, 111, 32, 39, 97, 32, 98, 39, 32, 49, 62, 120, 10]) = true := by decide +kernel
  go_wp2_with fail
  go_ret
  exact ⟨rfl, HB3.out⟩
end Go.Proofs.YtnackmnoldkihaaGreatDoor
/-
  The walks of Size and parts: some number.
-/
namespace Go.Proofs.YtnackmnoldkihaaGreatDoor
open Go.RowKit

/-- Some number is returned; what was there stays. -/
def SomeInt (w : World) (e : Ending) (w' : World) : Prop := ∃ z : Int, e = .returned (.int .i64 z) ∧ Below w.heap.size w w'
def PartsZ (d : Nat) : Prop := ∀ (W : World) (l : List Pt) (v : Value) (m q : Int), PtsIn W W.heap.size d l v → Calls Tryz.prog 51 #[v, .int .i64 m, .int .i64 q] W (SomeInt W)
def SizeZ (d : Nat) : Prop := ∀ (W : World) (l : List Nd) (v : Value) (m q : Int), NdsIn W W.heap.size d l v → Calls Tryz.prog 37 #[v, .int .i64 m, .int .i64 q] W (SomeInt W)

set_option maxHeartbeats 2000000 in
set_option maxRecDepth 100000 in
theorem parts_step (d : Nat) (hPZ : PartsZ d) (hSZ : SizeZ d) (l : List Pt) (v : Value) (m q : Int) (w : World) (hl : SlOf w w.heap.size 6 (PtC w w.heap.size d) l v) :
    Calls Tryz.prog 51 #[v, .int .i64 m, .int .i64 q] w (SomeInt w) := by
  obtain ⟨a, cap, rfl, hz⟩ := hl.len
  obtain ⟨n, hn⟩ : ∃ n, l.length = n := ⟨_, rfl⟩
  rw [hn] at hl hz ⊢
  have HL := Lib.hid hl
  have HN := Lib.hid hn
  have HPZ := Lib.hid hPZ
  have HSZ := Lib.hid hSZ
  clear hl hn hPZ hSZ
  go_enter Tryz.func51, Tryz.ntmps51
  go_wp2_with fail
  go_loopw [7, 12] (fun t i W => ∃ (k : Nat) (z : Int), k ≤ n ∧ i = .int .i64 k ∧ t = .int .i64 z ∧ Below w.heap.size w W) (fun _ i _ => n - (intOf i).toNat)
  case atStart => exact ⟨0, 0, Nat.zero_le _, rfl, rfl, Below.refl _ _⟩
  case round =>
    obtain ⟨k, z, hk, rfl, rfl, hB⟩ := hrel
    have hBz := hB.size
    by_cases hlt : k < n
    · obtain ⟨x, hx⟩ : ∃ x, l[k]? = .some x := ⟨_, List.getElem?_eq_getElem (by rw [HN.out]; exact hlt)⟩
      obtain ⟨b, o, c, hi, hbB, hce, hC, _⟩ := HL.out.at 29 44 Tryz.underlying29 (by kernel_rfl) hx
      obtain ⟨a1, c1, a2, c2, rfl, ⟨hxz, _⟩, _, hP, hS⟩ := hC.open
      have HP : Hid (∀ W, Below w.heap.size w W → ∀ m q : Int, Calls Tryz.prog 51 #[.slice a1 x.word.length c1, .int .i64 m, .int .i64 q] W (SomeInt W)) := Lib.hid fun W hW m q => HPZ.out W _ _ m q (hP.later hW)
      have HS : Hid (∀ W, Below w.heap.size w W → ∀ m q : Int, Calls Tryz.prog 37 #[.slice a2 x.body.length c2, .int .i64 m, .int .i64 q] W (SomeInt W)) := Lib.hid fun W hW m q => HSZ.out W _ _ m q (hS.later hW)
      have e0 := (hB.cell hbB).trans (hce 0 _ rfl)
      have e1 := (hB.cell hbB).trans (hce 1 _ rfl)
      have e2 := (hB.cell hbB).trans (hce 2 _ rfl)
      have e3 := (hB.cell hbB).trans (hce 3 _ rfl)
      have e4 := (hB.cell hbB).trans (hce 4 _ rfl)
      have e5 := (hB.cell hbB).trans (hce 5 _ rfl)
      have hbB' := Nat.lt_of_lt_of_le hbB hB.size
      rw [Nat.add_zero] at e0
      clear hx hce hP hS
      by_cases hg : m < wrap64 (z + 1) ∨ q ≤ 0
      · by_cases g0 : m < wrap64 (z + 1)
        · have g1 : decide (m < wrap64 (z + 1)) = true := by simp [g0]
          clear hg g0
          go_wp2
          go_ret
          exact ⟨_, rfl, (by repeat' (first | (with_reducible assumption) | (with_reducible exact Below.refl _ _) | (with_reducible refine below_drewN ?_ _) | (with_reducible refine below_bytes ?_ ?_ _) | (with_reducible refine Below.alloc ?_ ?_ _) | (with_reducible refine Below.drew ?_) | (with_reducible refine Below.setCell ?_ ?_ _) | go_size))⟩
        · have g1 : decide (m < wrap64 (z + 1)) = false := by simp; omega
          have g2 : decide (q ≤ 0) = true := by simp; omega
          clear hg g0
          go_wp2
          go_ret
          exact ⟨_, rfl, (by repeat' (first | (with_reducible assumption) | (with_reducible exact Below.refl _ _) | (with_reducible refine below_drewN ?_ _) | (with_reducible refine below_bytes ?_ ?_ _) | (with_reducible refine Below.alloc ?_ ?_ _) | (with_reducible refine Below.drew ?_) | (with_reducible refine Below.setCell ?_ ?_ _) | go_size))⟩
      · have g1 : decide (m < wrap64 (z + 1)) = false := by simp; omega
        have g2 : decide (q ≤ 0) = false := by simp; omega
        clear hg
        go_upto_region 8 with fail
        obtain ⟨X, hX⟩ : ∃ X, X = wr.alloc (.cells #[.int .i64 x.kind, .bool x.quoted, .string x.text, .string x.op, .slice a1 x.word.length c1, .slice a2 x.body.length c2] 44) := ⟨_, rfl⟩
        have hBX : Below w.heap.size w X := by rw [hX]; exact (by repeat' (first | (with_reducible assumption) | (with_reducible exact Below.refl _ _) | (with_reducible refine below_drewN ?_ _) | (with_reducible refine below_bytes ?_ ?_ _) | (with_reducible refine Below.alloc ?_ ?_ _) | (with_reducible refine Below.drew ?_) | (with_reducible refine Below.setCell ?_ ?_ _) | go_size))
        have x2 : X.cell? ⟨wr.heap.size, 2, none⟩ = some (.string x.text) := by rw [hX]; simp
        have x4 : X.cell? ⟨wr.heap.size, 4, none⟩ = some (.slice a1 x.word.length c1) := by rw [hX]; simp
        have x5 : X.cell? ⟨wr.heap.size, 5, none⟩ = some (.slice a2 x.body.length c2) := by rw [hX]; simp
        have hgX : wr.heap.size < X.heap.size := by rw [hX]; simp
        rw [← hX]
        clear hX
        have CP : Hid (∀ (W : World) (q : Int), Below X.heap.size X W → Calls Tryz.prog 51 #[.slice a1 x.word.length c1, .int .i64 m, .int .i64 q] W fun e w' => ∃ z : Int, e = .returned (.int .i64 z) ∧ Below X.heap.size X w') := Lib.hid fun W q hW => (HP.out W (hBX.trans (hW.mono hBX.size)) m q).mono fun e w' ⟨z, h1, h2⟩ => ⟨z, h1, hW.trans (h2.mono hW.size)⟩
        have CS : Hid (∀ (W : World) (q : Int), Below X.heap.size X W → Calls Tryz.prog 37 #[.slice a2 x.body.length c2, .int .i64 m, .int .i64 q] W fun e w' => ∃ z : Int, e = .returned (.int .i64 z) ∧ Below X.heap.size X w') := Lib.hid fun W q hW => (HS.out W (hBX.trans (hW.mono hBX.size)) m q).mono fun e w' ⟨z, h1, h2⟩ => ⟨z, h1, hW.trans (h2.mono hW.size)⟩
        go_region_held3 (fun w' => w'.cell? ⟨wr.heap.size, 2, none⟩ = some (.string x.text) ∧ w'.cell? ⟨wr.heap.size, 4, none⟩ = some (.slice a1 x.word.length c1) ∧ w'.cell? ⟨wr.heap.size, 5, none⟩ = some (.slice a2 x.body.length c2)) (go_keep)
          (first
            | (go_at_call 51; with_reducible refine (CP.out _ _ (by repeat' (first | (with_reducible assumption) | (with_reducible exact Below.refl _ _) | (with_reducible refine below_drewN ?_ _) | (with_reducible refine below_bytes ?_ ?_ _) | (with_reducible refine Below.alloc ?_ ?_ _) | (with_reducible refine Below.drew ?_) | (with_reducible refine Below.setCell ?_ ?_ _) | go_size))).mono ?_; rintro e w1 ⟨z1, rfl, hb1⟩; have d2 := (hb1.cell hgX).trans x2; have d4 := (hb1.cell hgX).trans x4; have d5 := (hb1.cell hgX).trans x5)
            | (go_at_call 37; with_reducible refine (CS.out _ _ (by repeat' (first | (with_reducible assumption) | (with_reducible exact Below.refl _ _) | (with_reducible refine below_drewN ?_ _) | (with_reducible refine below_bytes ?_ ?_ _) | (with_reducible refine Below.alloc ?_ ?_ _) | (with_reducible refine Below.drew ?_) | (with_reducible refine Below.setCell ?_ ?_ _) | go_size))).mono ?_; rintro e w1 ⟨z1, rfl, hb1⟩; have d2 := (hb1.cell hgX).trans x2; have d4 := (hb1.cell hgX).trans x4; have d5 := (hb1.cell hgX).trans x5))
        all_goals
          go_wp2_with fail
          go_roundw
          case rel => exact ⟨k + 1, _, by omega, by go_num, rfl, hBX.trans (Below.mono (B := X.heap.size) (by repeat' (first | (with_reducible assumption) | (with_reducible exact Below.refl _ _) | (with_reducible refine below_drewN ?_ _) | (with_reducible refine below_bytes ?_ ?_ _) | (with_reducible refine Below.alloc ?_ ?_ _) | (with_reducible refine Below.drew ?_) | (with_reducible refine Below.setCell ?_ ?_ _) | go_size)) hBX.size)⟩
          case measure => simp [intOf]; omega
    · go_wp2
      go_ret
      exact ⟨_, rfl, hB⟩
end Go.Proofs.YtnackmnoldkihaaGreatDoor
/-
  The walk of Size.
-/
namespace Go.Proofs.YtnackmnoldkihaaGreatDoor
open Go.RowKit

set_option maxHeartbeats 4000000 in
set_option maxRecDepth 100000 in
theorem size_step (d : Nat) (hPZ : PartsZ d) (hSZ : SizeZ d) (l : List Nd) (v : Value) (m q : Int) (w : World) (hl : SlOf w w.heap.size 7 (NdC w w.heap.size d) l v) :
    Calls Tryz.prog 37 #[v, .int .i64 m, .int .i64 q] w (SomeInt w) := by
  obtain ⟨a, cap, rfl, hz⟩ := hl.len
  obtain ⟨n, hn⟩ : ∃ n, l.length = n := ⟨_, rfl⟩
  rw [hn] at hl hz ⊢
  have HL := Lib.hid hl
  have HN := Lib.hid hn
  have HPZ := Lib.hid hPZ
  have HSZ := Lib.hid hSZ
  clear hl hn hPZ hSZ
  go_enter Tryz.func37, Tryz.ntmps37
  go_wp2_with fail
  go_loopw [7, 24] (fun t i W => ∃ (k : Nat) (z : Int), k ≤ n ∧ i = .int .i64 k ∧ t = .int .i64 z ∧ Below w.heap.size w W) (fun _ i _ => n - (intOf i).toNat)
  case atStart => exact ⟨0, 0, Nat.zero_le _, rfl, rfl, Below.refl _ _⟩
  case round =>
    obtain ⟨k, z, hk, rfl, rfl, hB⟩ := hrel
    have hBz := hB.size
    by_cases hlt : k < n
    · obtain ⟨x, hx⟩ : ∃ x, l[k]? = .some x := ⟨_, List.getElem?_eq_getElem (by rw [HN.out]; exact hlt)⟩
      obtain ⟨b, o, c, hi, hbB, hce, hC, _⟩ := HL.out.at 22 38 Tryz.underlying22 (by kernel_rfl) hx
      obtain ⟨a1, c1, a2, c2, a3, c3, a4, c4, a5, c5, rfl, hxz, ⟨hn1, hn2, hn3, hn4, hn5⟩, hA, hW, hRd, hLs, hAr⟩ := hC.open
      have e0 := (hB.cell hbB).trans (hce 0 _ rfl)
      have e1 := (hB.cell hbB).trans (hce 1 _ rfl)
      have e2 := (hB.cell hbB).trans (hce 2 _ rfl)
      have e3 := (hB.cell hbB).trans (hce 3 _ rfl)
      have e4 := (hB.cell hbB).trans (hce 4 _ rfl)
      have e5 := (hB.cell hbB).trans (hce 5 _ rfl)
      have e6 := (hB.cell hbB).trans (hce 6 _ rfl)
      have hbB' := Nat.lt_of_lt_of_le hbB hB.size
      rw [Nat.add_zero] at e0
      obtain ⟨n1, hl1⟩ : ∃ n, x.assigns.length = n := ⟨_, rfl⟩
      obtain ⟨n2, hl2⟩ : ∃ n, x.words.length = n := ⟨_, rfl⟩
      obtain ⟨n3, hl3⟩ : ∃ n, x.redirs.length = n := ⟨_, rfl⟩
      obtain ⟨n4, hl4⟩ : ∃ n, x.lists.length = n := ⟨_, rfl⟩
      obtain ⟨n5, hl5⟩ : ∃ n, x.arms.length = n := ⟨_, rfl⟩
      rw [hl1] at e2 hn1 hA
      rw [hl2] at e3 hn2 hW
      rw [hl3] at e4 hn3 hRd
      rw [hl4] at e5 hn4 hLs
      rw [hl5] at e6 hn5 hAr
      have HA := Lib.hid hA
      have HW := Lib.hid hW
      have HRD := Lib.hid hRd
      have HLS := Lib.hid hLs
      have HAR := Lib.hid hAr
      have N1 := Lib.hid hl1
      have N2 := Lib.hid hl2
      have N3 := Lib.hid hl3
      have N4 := Lib.hid hl4
      have N5 := Lib.hid hl5
      clear hx hce hA hW hRd hLs hAr hl1 hl2 hl3 hl4 hl5 hC
      by_cases hg : m < wrap64 (z + 1) ∨ q = 0
      · by_cases g0 : m < wrap64 (z + 1)
        · have g1 : decide (m < wrap64 (z + 1)) = true := by simp [g0]
          clear hg g0
          go_wp2
          go_ret
          exact ⟨_, rfl, (by repeat' (first | (with_reducible assumption) | (with_reducible exact Below.refl _ _) | (with_reducible refine below_drewN ?_ _) | (with_reducible refine below_bytes ?_ ?_ _) | (with_reducible refine Below.alloc ?_ ?_ _) | (with_reducible refine Below.drew ?_) | (with_reducible refine Below.setCell ?_ ?_ _) | go_size))⟩
        · have g1 : decide (m < wrap64 (z + 1)) = false := by simp; omega
          have g2 : (q == 0) = true := by simp; omega
          clear hg g0
          go_wp2
          go_ret
          exact ⟨_, rfl, (by repeat' (first | (with_reducible assumption) | (with_reducible exact Below.refl _ _) | (with_reducible refine below_drewN ?_ _) | (with_reducible refine below_bytes ?_ ?_ _) | (with_reducible refine Below.alloc ?_ ?_ _) | (with_reducible refine Below.drew ?_) | (with_reducible refine Below.setCell ?_ ?_ _) | go_size))⟩
      · have g1 : decide (m < wrap64 (z + 1)) = false := by simp; omega
        have g2 : (q == 0) = false := by simp; omega
        clear hg
        obtain ⟨g, hgd⟩ : ∃ g, g = wr.heap.size := ⟨_, rfl⟩
        have hgB : w.heap.size ≤ g := by omega
        have HST : Hid (∀ (cs : Array Value), Blk (wr.alloc (.cells cs 38)) g 38 cs) := Lib.hid fun cs => Blk.at hgd
        go_wp2_with fail
        rw [← hgd]
        clear e0 e1 e2 e3 e4 e5 e6 hi hgd
        go_loopw [7, 47]
          (fun t i W => ∃ (j : Nat) (z : Int), j ≤ n1 ∧ i = .int .i64 j ∧ t = .int .i64 z ∧ Blk W g 38 #[.int .i64 x.kind, .string x.name, .slice a1 n1 c1, .slice a2 n2 c2, .slice a3 n3 c3, .slice a4 n4 c4, .slice a5 n5 c5] ∧ Below w.heap.size w W) (fun _ i _ => n1 - (intOf i).toNat)
        case atStart => exact ⟨0, _, Nat.zero_le _, rfl, rfl, HST.out _, (by repeat' (first | (with_reducible assumption) | (with_reducible exact Below.refl _ _) | (with_reducible refine below_drewN ?_ _) | (with_reducible refine below_bytes ?_ ?_ _) | (with_reducible refine Below.alloc ?_ ?_ _) | (with_reducible refine Below.drew ?_) | (with_reducible refine Below.setCell ?_ ?_ _) | go_size))⟩
        case round =>
          obtain ⟨j, z, hj, rfl, rfl, hbk, hB⟩ := hrel
          have HBK := Lib.hid hbk
          have hBz := hB.size
          clear hbk
          have p0 := HBK.out.cell 0
          have p1 := HBK.out.cell 1
          have p2 := HBK.out.cell 2
          have p3 := HBK.out.cell 3
          have p4 := HBK.out.cell 4
          have p5 := HBK.out.cell 5
          have p6 := HBK.out.cell 6
          have pl := HBK.out.lt
          simp at p0 p1 p2 p3 p4 p5 p6
          by_cases hlt1 : j < n1
          · obtain ⟨y, hy⟩ : ∃ y, x.assigns[j]? = .some y := ⟨_, List.getElem?_eq_getElem (by rw [N1.out]; exact hlt1)⟩
            obtain ⟨b, o, c, hi, hbB, hce, hC, _⟩ := HA.out.at 33 94 Tryz.underlying33 (by kernel_rfl) hy
            obtain ⟨a6, c6, rfl, hyz, hyl, hP⟩ := hC.open
            have e0 := (hB.cell hbB).trans (hce 0 _ rfl)
            have e1 := (hB.cell hbB).trans (hce 1 _ rfl)
            have hbB' := Nat.lt_of_lt_of_le hbB hB.size
            rw [Nat.add_zero] at e0
            clear hy hce hC
            go_wp2_with fail
            obtain ⟨X, hX⟩ : ∃ X, X = wr.alloc (.cells #[.string y.name, .slice a6 y.word.length c6] 94) := ⟨_, rfl⟩
            have HBX : Hid (Below wr.heap.size wr X) := Lib.hid (by rw [hX]; exact (by repeat' (first | (with_reducible assumption) | (with_reducible exact Below.refl _ _) | (with_reducible refine below_drewN ?_ _) | (with_reducible refine below_bytes ?_ ?_ _) | (with_reducible refine Below.alloc ?_ ?_ _) | (with_reducible refine Below.drew ?_) | (with_reducible refine Below.setCell ?_ ?_ _) | go_size)))
            have x0 : X.cell? ⟨wr.heap.size, 0, none⟩ = some (.string y.name) := by rw [hX]; simp
            have x1 : X.cell? ⟨wr.heap.size, 1, none⟩ = some (.slice a6 y.word.length c6) := by rw [hX]; simp
            have hgX : wr.heap.size < X.heap.size := by rw [hX]; simp
            rw [← hX]
            clear hX
            have hBX : Below w.heap.size w X := hB.trans (HBX.out.mono hBz)
            have CP : Hid (∀ (W : World) (q : Int), Below X.heap.size X W → Calls Tryz.prog 51 #[.slice a6 y.word.length c6, .int .i64 m, .int .i64 q] W fun e w' => ∃ z : Int, e = .returned (.int .i64 z) ∧ Below X.heap.size X w') := Lib.hid fun W q hW => (HPZ.out W _ _ m q (hP.later (hBX.trans (hW.mono hBX.size)))).mono fun e w' ⟨z, h1, h2⟩ => ⟨z, h1, hW.trans (h2.mono hW.size)⟩
            clear hP
            go_region_held3 (fun w' => w'.cell? ⟨wr.heap.size, 0, none⟩ = some (.string y.name) ∧ w'.cell? ⟨wr.heap.size, 1, none⟩ = some (.slice a6 y.word.length c6)) (go_keep)
              ((go_at_call 51; with_reducible refine (CP.out _ _ (by repeat' (first | (with_reducible assumption) | (with_reducible exact Below.refl _ _) | (with_reducible refine below_drewN ?_ _) | (with_reducible refine below_bytes ?_ ?_ _) | (with_reducible refine Below.alloc ?_ ?_ _) | (with_reducible refine Below.drew ?_) | (with_reducible refine Below.setCell ?_ ?_ _) | go_size))).mono ?_; rintro e w1 ⟨z1, rfl, hb1⟩; have d0 := (hb1.cell hgX).trans x0; have d1 := (hb1.cell hgX).trans x1))
            all_goals
              have hXW : ∀ W, Below X.heap.size X W → Blk W g 38 #[.int .i64 x.kind, .string x.name, .slice a1 n1 c1, .slice a2 n2 c2, .slice a3 n3 c3, .slice a4 n4 c4, .slice a5 n5 c5] ∧ Below w.heap.size w W := fun W hW => ⟨(HBK.out.below HBX.out pl).below hW (by omega), hBX.trans (hW.mono hBX.size)⟩
              have HXW := Lib.hid hXW
              clear hXW
              go_wp2_with fail
              go_roundw
              case rel => exact ⟨j + 1, _, by omega, by go_num, rfl, HXW.out _ (by repeat' (first | (with_reducible assumption) | (with_reducible exact Below.refl _ _) | (with_reducible refine below_drewN ?_ _) | (with_reducible refine below_bytes ?_ ?_ _) | (with_reducible refine Below.alloc ?_ ?_ _) | (with_reducible refine Below.drew ?_) | (with_reducible refine Below.setCell ?_ ?_ _) | go_size))⟩
              case measure => simp [intOf]; omega
          · go_wp2_with fail
            go_loopw [7, 68]
              (fun t i W => ∃ (j : Nat) (z : Int), j ≤ n2 ∧ i = .int .i64 j ∧ t = .int .i64 z ∧ Blk W g 38 #[.int .i64 x.kind, .string x.name, .slice a1 n1 c1, .slice a2 n2 c2, .slice a3 n3 c3, .slice a4 n4 c4, .slice a5 n5 c5] ∧ Below w.heap.size w W) (fun _ i _ => n2 - (intOf i).toNat)
            case atStart => exact ⟨0, _, Nat.zero_le _, rfl, rfl, HBK.out, hB⟩
            case round =>
              clear p0 p1 p2 p3 p4 p5 p6 pl hB hBz
              obtain ⟨j, z, hj, rfl, rfl, hbk, hB⟩ := hrel
              have HBK := Lib.hid hbk
              have hBz := hB.size
              clear hbk
              have p0 := HBK.out.cell 0
              have p1 := HBK.out.cell 1
              have p2 := HBK.out.cell 2
              have p3 := HBK.out.cell 3
              have p4 := HBK.out.cell 4
              have p5 := HBK.out.cell 5
              have p6 := HBK.out.cell 6
              have pl := HBK.out.lt
              simp at p0 p1 p2 p3 p4 p5 p6
              by_cases hlt1 : j < n2
              · obtain ⟨y, hy⟩ : ∃ y, x.words[j]? = .some y := ⟨_, List.getElem?_eq_getElem (by rw [N2.out]; exact hlt1)⟩
                obtain ⟨b, o, c, hi, hbB, hce, ⟨yv, rfl, hP⟩, _⟩ := HW.out.at 34 29 Tryz.underlying34 (by kernel_rfl) hy
                obtain ⟨a6, c6, rfl, _⟩ := hP.shape
                have e0 := (hB.cell hbB).trans (hce 0 _ rfl)
                have hbB' := Nat.lt_of_lt_of_le hbB hB.size
                rw [Nat.add_zero] at e0
                have CP : Hid (∀ (W : World) (q : Int), Below w.heap.size w W → Calls Tryz.prog 51 #[.slice a6 y.length c6, .int .i64 m, .int .i64 q] W (SomeInt W)) := Lib.hid fun W q hW => HPZ.out W _ _ m q (hP.later hW)
                clear hy hce hP
                go_wp2_with fail
                refine (CP.out _ _ (by repeat' (first | (with_reducible assumption) | (with_reducible exact Below.refl _ _) | (with_reducible refine below_drewN ?_ _) | (with_reducible refine below_bytes ?_ ?_ _) | (with_reducible refine Below.alloc ?_ ?_ _) | (with_reducible refine Below.drew ?_) | (with_reducible refine Below.setCell ?_ ?_ _) | go_size))).mono ?_
                rintro e w1 ⟨z1, rfl, hb1⟩
                have HB1 := Lib.hid hb1
                have hB1 : Below w.heap.size w w1 := since hb1 (by repeat' (first | (with_reducible assumption) | (with_reducible exact Below.refl _ _) | (with_reducible refine below_drewN ?_ _) | (with_reducible refine below_bytes ?_ ?_ _) | (with_reducible refine Below.alloc ?_ ?_ _) | (with_reducible refine Below.drew ?_) | (with_reducible refine Below.setCell ?_ ?_ _) | go_size))
                clear hb1
                go_wp2_with fail
                go_roundw
                case rel => exact ⟨j + 1, _, by omega, by go_num, rfl, HBK.out.below HB1.out HBK.out.lt, hB1⟩
                case measure => simp [intOf]; omega
              · go_wp2_with fail
                go_loopw [7, 84]
                  (fun t i W => ∃ (j : Nat) (z : Int), j ≤ n3 ∧ i = .int .i64 j ∧ t = .int .i64 z ∧ Blk W g 38 #[.int .i64 x.kind, .string x.name, .slice a1 n1 c1, .slice a2 n2 c2, .slice a3 n3 c3, .slice a4 n4 c4, .slice a5 n5 c5] ∧ Below w.heap.size w W) (fun _ i _ => n3 - (intOf i).toNat)
                case atStart => exact ⟨0, _, Nat.zero_le _, rfl, rfl, HBK.out, hB⟩
                case round =>
                  clear p0 p1 p2 p3 p4 p5 p6 pl hB hBz
                  obtain ⟨j, z, hj, rfl, rfl, hbk, hB⟩ := hrel
                  have HBK := Lib.hid hbk
                  have hBz := hB.size
                  clear hbk
                  have p0 := HBK.out.cell 0
                  have p1 := HBK.out.cell 1
                  have p2 := HBK.out.cell 2
                  have p3 := HBK.out.cell 3
                  have p4 := HBK.out.cell 4
                  have p5 := HBK.out.cell 5
                  have p6 := HBK.out.cell 6
                  have pl := HBK.out.lt
                  simp at p0 p1 p2 p3 p4 p5 p6
                  by_cases hlt1 : j < n3
                  · obtain ⟨y, hy⟩ : ∃ y, x.redirs[j]? = .some y := ⟨_, List.getElem?_eq_getElem (by rw [N3.out]; exact hlt1)⟩
                    obtain ⟨b, o, c, hi, hbB, hce, hC, _⟩ := HRD.out.at 32 31 Tryz.underlying32 (by kernel_rfl) hy
                    obtain ⟨a6, c6, rfl, ⟨hyz, hyz2⟩, _, hyl, hP⟩ := hC.open
                    have e0 := (hB.cell hbB).trans (hce 0 _ rfl)
                    have e1 := (hB.cell hbB).trans (hce 1 _ rfl)
                    have e2 := (hB.cell hbB).trans (hce 2 _ rfl)
                    have e3 := (hB.cell hbB).trans (hce 3 _ rfl)
                    have hbB' := Nat.lt_of_lt_of_le hbB hB.size
                    rw [Nat.add_zero] at e0
                    clear hy hce hC
                    go_wp2_with fail
                    obtain ⟨X, hX⟩ : ∃ X, X = wr.alloc (.cells #[.int .i64 y.fd, .string y.op, .string y.tag, .slice a6 y.word.length c6] 31) := ⟨_, rfl⟩
                    have HBX : Hid (Below wr.heap.size wr X) := Lib.hid (by rw [hX]; exact (by repeat' (first | (with_reducible assumption) | (with_reducible exact Below.refl _ _) | (with_reducible refine below_drewN ?_ _) | (with_reducible refine below_bytes ?_ ?_ _) | (with_reducible refine Below.alloc ?_ ?_ _) | (with_reducible refine Below.drew ?_) | (with_reducible refine Below.setCell ?_ ?_ _) | go_size)))
                    have x0 : X.cell? ⟨wr.heap.size, 2, none⟩ = some (.string y.tag) := by rw [hX]; simp
                    have x1 : X.cell? ⟨wr.heap.size, 3, none⟩ = some (.slice a6 y.word.length c6) := by rw [hX]; simp
                    have hgX : wr.heap.size < X.heap.size := by rw [hX]; simp
                    rw [← hX]
                    clear hX
                    have hBX : Below w.heap.size w X := hB.trans (HBX.out.mono hBz)
                    have CP : Hid (∀ (W : World) (q : Int), Below X.heap.size X W → Calls Tryz.prog 51 #[.slice a6 y.word.length c6, .int .i64 m, .int .i64 q] W fun e w' => ∃ z : Int, e = .returned (.int .i64 z) ∧ Below X.heap.size X w') := Lib.hid fun W q hW => (HPZ.out W _ _ m q (hP.later (hBX.trans (hW.mono hBX.size)))).mono fun e w' ⟨z, h1, h2⟩ => ⟨z, h1, hW.trans (h2.mono hW.size)⟩
                    clear hP
                    go_region_held3 (fun w' => w'.cell? ⟨wr.heap.size, 2, none⟩ = some (.string y.tag) ∧ w'.cell? ⟨wr.heap.size, 3, none⟩ = some (.slice a6 y.word.length c6)) (go_keep)
                      ((go_at_call 51; with_reducible refine (CP.out _ _ (by repeat' (first | (with_reducible assumption) | (with_reducible exact Below.refl _ _) | (with_reducible refine below_drewN ?_ _) | (with_reducible refine below_bytes ?_ ?_ _) | (with_reducible refine Below.alloc ?_ ?_ _) | (with_reducible refine Below.drew ?_) | (with_reducible refine Below.setCell ?_ ?_ _) | go_size))).mono ?_; rintro e w1 ⟨z1, rfl, hb1⟩; have d0 := (hb1.cell hgX).trans x0; have d1 := (hb1.cell hgX).trans x1))
                    all_goals
                      have hXW : ∀ W, Below X.heap.size X W → Blk W g 38 #[.int .i64 x.kind, .string x.name, .slice a1 n1 c1, .slice a2 n2 c2, .slice a3 n3 c3, .slice a4 n4 c4, .slice a5 n5 c5] ∧ Below w.heap.size w W := fun W hW => ⟨(HBK.out.below HBX.out pl).below hW (by omega), hBX.trans (hW.mono hBX.size)⟩
                      have HXW := Lib.hid hXW
                      clear hXW
                      go_wp2_with fail
                      go_roundw
                      case rel => exact ⟨j + 1, _, by omega, by go_num, rfl, HXW.out _ (by repeat' (first | (with_reducible assumption) | (with_reducible exact Below.refl _ _) | (with_reducible refine below_drewN ?_ _) | (with_reducible refine below_bytes ?_ ?_ _) | (with_reducible refine Below.alloc ?_ ?_ _) | (with_reducible refine Below.drew ?_) | (with_reducible refine Below.setCell ?_ ?_ _) | go_size))⟩
                      case measure => simp [intOf]; omega
                  · go_wp2_with fail
                    go_loopw [7, 105]
                      (fun t i W => ∃ (j : Nat) (z : Int), j ≤ n4 ∧ i = .int .i64 j ∧ t = .int .i64 z ∧ Blk W g 38 #[.int .i64 x.kind, .string x.name, .slice a1 n1 c1, .slice a2 n2 c2, .slice a3 n3 c3, .slice a4 n4 c4, .slice a5 n5 c5] ∧ Below w.heap.size w W) (fun _ i _ => n4 - (intOf i).toNat)
                    case atStart => exact ⟨0, _, Nat.zero_le _, rfl, rfl, HBK.out, hB⟩
                    case round =>
                      clear p0 p1 p2 p3 p4 p5 p6 pl hB hBz
                      obtain ⟨j, z, hj, rfl, rfl, hbk, hB⟩ := hrel
                      have HBK := Lib.hid hbk
                      have hBz := hB.size
                      clear hbk
                      have p0 := HBK.out.cell 0
                      have p1 := HBK.out.cell 1
                      have p2 := HBK.out.cell 2
                      have p3 := HBK.out.cell 3
                      have p4 := HBK.out.cell 4
                      have p5 := HBK.out.cell 5
                      have p6 := HBK.out.cell 6
                      have pl := HBK.out.lt
                      simp at p0 p1 p2 p3 p4 p5 p6
                      by_cases hlt1 : j < n4
                      · obtain ⟨y, hy⟩ : ∃ y, x.lists[j]? = .some y := ⟨_, List.getElem?_eq_getElem (by rw [N4.out]; exact hlt1)⟩
                        obtain ⟨b, o, c, hi, hbB, hce, ⟨yv, rfl, hP⟩, _⟩ := HLS.out.at 35 22 Tryz.underlying35 (by kernel_rfl) hy
                        obtain ⟨a6, c6, rfl, _⟩ := hP.shape
                        have e0 := (hB.cell hbB).trans (hce 0 _ rfl)
                        have hbB' := Nat.lt_of_lt_of_le hbB hB.size
                        rw [Nat.add_zero] at e0
                        have CP : Hid (∀ (W : World) (q : Int), Below w.heap.size w W → Calls Tryz.prog 37 #[.slice a6 y.length c6, .int .i64 m, .int .i64 q] W (SomeInt W)) := Lib.hid fun W q hW => HSZ.out W _ _ m q (hP.later hW)
                        clear hy hce hP
                        go_wp2_with fail
                        refine (CP.out _ _ (by repeat' (first | (with_reducible assumption) | (with_reducible exact Below.refl _ _) | (with_reducible refine below_drewN ?_ _) | (with_reducible refine below_bytes ?_ ?_ _) | (with_reducible refine Below.alloc ?_ ?_ _) | (with_reducible refine Below.drew ?_) | (with_reducible refine Below.setCell ?_ ?_ _) | go_size))).mono ?_
                        rintro e w1 ⟨z1, rfl, hb1⟩
                        have HB1 := Lib.hid hb1
                        have hB1 : Below w.heap.size w w1 := since hb1 (by repeat' (first | (with_reducible assumption) | (with_reducible exact Below.refl _ _) | (with_reducible refine below_drewN ?_ _) | (with_reducible refine below_bytes ?_ ?_ _) | (with_reducible refine Below.alloc ?_ ?_ _) | (with_reducible refine Below.drew ?_) | (with_reducible refine Below.setCell ?_ ?_ _) | go_size))
                        clear hb1
                        go_wp2_with fail
                        go_roundw
                        case rel => exact ⟨j + 1, _, by omega, by go_num, rfl, HBK.out.below HB1.out HBK.out.lt, hB1⟩
                        case measure => simp [intOf]; omega
                      · go_wp2_with fail
                        go_loopw [7, 121]
                          (fun t i W => ∃ (j : Nat) (z : Int), j ≤ n5 ∧ i = .int .i64 j ∧ t = .int .i64 z ∧ Blk W g 38 #[.int .i64 x.kind, .string x.name, .slice a1 n1 c1, .slice a2 n2 c2, .slice a3 n3 c3, .slice a4 n4 c4, .slice a5 n5 c5] ∧ Below w.heap.size w W) (fun _ i _ => n5 - (intOf i).toNat)
                        case atStart => exact ⟨0, _, Nat.zero_le _, rfl, rfl, HBK.out, hB⟩
                        case round =>
                          clear p0 p1 p2 p3 p4 p5 p6 pl hB hBz
                          obtain ⟨j, z, hj, rfl, rfl, hbk, hB⟩ := hrel
                          have HBK := Lib.hid hbk
                          have hBz := hB.size
                          clear hbk
                          have p0 := HBK.out.cell 0
                          have p1 := HBK.out.cell 1
                          have p2 := HBK.out.cell 2
                          have p3 := HBK.out.cell 3
                          have p4 := HBK.out.cell 4
                          have p5 := HBK.out.cell 5
                          have p6 := HBK.out.cell 6
                          have pl := HBK.out.lt
                          simp at p0 p1 p2 p3 p4 p5 p6
                          obtain ⟨wo, rfl⟩ : ∃ wo : World, wo = wr := ⟨_, rfl⟩
                          by_cases hlt1 : j < n5
                          · obtain ⟨y, hy⟩ : ∃ y, x.arms[j]? = .some y := ⟨_, List.getElem?_eq_getElem (by rw [N5.out]; exact hlt1)⟩
                            obtain ⟨b, o, c, hi, hbB, hce, hC, _⟩ := HAR.out.at 36 90 Tryz.underlying36 (by kernel_rfl) hy
                            obtain ⟨a6, c6, a7, c7, rfl, ⟨hz6, hz7⟩, hyw, hP⟩ := hC.open
                            have HYW := Lib.hid hyw
                            have e0 := (hB.cell hbB).trans (hce 0 _ rfl)
                            have e1 := (hB.cell hbB).trans (hce 1 _ rfl)
                            have hbB' := Nat.lt_of_lt_of_le hbB hB.size
                            rw [Nat.add_zero] at e0
                            obtain ⟨n6, hn6⟩ : ∃ n, y.words.length = n := ⟨_, rfl⟩
                            have N6 := Lib.hid hn6
                            rw [hn6] at e0 HYW hz6
                            have CP : Hid (∀ (W : World) (q : Int), Below w.heap.size w W → Calls Tryz.prog 37 #[.slice a7 y.body.length c7, .int .i64 m, .int .i64 q] W (SomeInt W)) := Lib.hid fun W q hW => HSZ.out W _ _ m q (hP.later hW)
                            clear hy hce hP hC hyw hn6
                            go_wp2_with fail
                            refine (CP.out _ _ (by repeat' (first | (with_reducible assumption) | (with_reducible exact Below.refl _ _) | (with_reducible refine below_drewN ?_ _) | (with_reducible refine below_bytes ?_ ?_ _) | (with_reducible refine Below.alloc ?_ ?_ _) | (with_reducible refine Below.drew ?_) | (with_reducible refine Below.setCell ?_ ?_ _) | go_size))).mono ?_
                            rintro e w1 ⟨z1, rfl, hb1⟩
                            have q0 : w1.cell? ⟨wo.heap.size, 0, none⟩ = some (.slice a6 n6 c6) := (hb1.cell (by simp)).trans (by simp)
                            have HBK1 := Lib.hid ((HBK.out.alloc (.cells #[.slice a6 n6 c6, .slice a7 y.body.length c7] 90)).below hb1 (by simp; omega))
                            have hB1 : Below w.heap.size w w1 := since hb1 (by repeat' (first | (with_reducible assumption) | (with_reducible exact Below.refl _ _) | (with_reducible refine below_drewN ?_ _) | (with_reducible refine below_bytes ?_ ?_ _) | (with_reducible refine Below.alloc ?_ ?_ _) | (with_reducible refine Below.drew ?_) | (with_reducible refine Below.setCell ?_ ?_ _) | go_size))
                            have hz1 := hb1.size
                            simp at hz1
                            clear hb1
                            go_wp2_with fail
                            clear hB hBz pl p0 p1 p2 p3 p4 p5 p6 hi e0 e1
                            obtain ⟨jo, hjo⟩ : ∃ jo, jo = j := ⟨_, rfl⟩
                            go_loopw [7, 137]
                              (fun t i W => ∃ (j : Nat) (z : Int), j ≤ n6 ∧ i = .int .i64 j ∧ t = .int .i64 z ∧ Blk W g 38 #[.int .i64 x.kind, .string x.name, .slice a1 n1 c1, .slice a2 n2 c2, .slice a3 n3 c3, .slice a4 n4 c4, .slice a5 n5 c5] ∧ Below w.heap.size w W) (fun _ i _ => n6 - (intOf i).toNat)
                            case atStart => exact ⟨0, _, Nat.zero_le _, rfl, rfl, HBK1.out, hB1⟩
                            case round =>
                              obtain ⟨j2, z, hj2, rfl, rfl, hbk, hB⟩ := hrel
                              have HBK2 := Lib.hid hbk
                              have hBz := hB.size
                              clear hbk
                              have p0 := HBK2.out.cell 0
                              have p1 := HBK2.out.cell 1
                              have p2 := HBK2.out.cell 2
                              have p3 := HBK2.out.cell 3
                              have p4 := HBK2.out.cell 4
                              have p5 := HBK2.out.cell 5
                              have p6 := HBK2.out.cell 6
                              have pl := HBK2.out.lt
                              simp at p0 p1 p2 p3 p4 p5 p6
                              by_cases hlt2 : j2 < n6
                              · obtain ⟨y2, hy⟩ : ∃ y2, y.words[j2]? = .some y2 := ⟨_, List.getElem?_eq_getElem (by rw [N6.out]; exact hlt2)⟩
                                obtain ⟨b, o, c, hi, hbB, hce, ⟨yv, rfl, hP⟩, _⟩ := HYW.out.at 34 29 Tryz.underlying34 (by kernel_rfl) hy
                                obtain ⟨a8, c8, rfl, _⟩ := hP.shape
                                have e0 := (hB.cell hbB).trans (hce 0 _ rfl)
                                have hbB' := Nat.lt_of_lt_of_le hbB hB.size
                                rw [Nat.add_zero] at e0
                                have CP2 : Hid (∀ (W : World) (q : Int), Below w.heap.size w W → Calls Tryz.prog 51 #[.slice a8 y2.length c8, .int .i64 m, .int .i64 q] W (SomeInt W)) := Lib.hid fun W q hW => HPZ.out W _ _ m q (hP.later hW)
                                clear hy hce hP
                                go_wp2_with fail
                                refine (CP2.out _ _ (by repeat' (first | (with_reducible assumption) | (with_reducible exact Below.refl _ _) | (with_reducible refine below_drewN ?_ _) | (with_reducible refine below_bytes ?_ ?_ _) | (with_reducible refine Below.alloc ?_ ?_ _) | (with_reducible refine Below.drew ?_) | (with_reducible refine Below.setCell ?_ ?_ _) | go_size))).mono ?_
                                rintro e w2 ⟨z2, rfl, hb2⟩
                                have HB2 := Lib.hid hb2
                                have hB2 : Below w.heap.size w w2 := since hb2 (by repeat' (first | (with_reducible assumption) | (with_reducible exact Below.refl _ _) | (with_reducible refine below_drewN ?_ _) | (with_reducible refine below_bytes ?_ ?_ _) | (with_reducible refine Below.alloc ?_ ?_ _) | (with_reducible refine Below.drew ?_) | (with_reducible refine Below.setCell ?_ ?_ _) | go_size))
                                clear hb2
                                go_wp2_with fail
                                go_roundw
                                case rel => exact ⟨j2 + 1, _, by omega, by go_num, rfl, HBK2.out.below HB2.out HBK2.out.lt, hB2⟩
                                case measure => simp [intOf]; omega
                              · go_wp2_with fail
                                go_roundw
                                case rel => exact ⟨j + 1, _, by omega, by go_num, rfl, HBK2.out, hB⟩
                                case measure => simp [intOf]; omega
                          · go_wp2_with fail
                            go_roundw
                            case rel => exact ⟨k + 1, _, by omega, by go_num, rfl, hB⟩
                            case measure => simp [intOf]; omega
    · go_wp2
      go_ret
      exact ⟨_, rfl, hB⟩

/-- parts and Size, at every depth. -/
theorem sizes : ∀ d, PartsZ d ∧ SizeZ d
  | 0 => by
    have hP : PartsZ 0 := fun W l v m q h => by
      rw [PtsIn] at h
      obtain rfl := h.zero
      obtain ⟨a, cap, rfl, _⟩ := h.len
      clear h
      have hn : ([] : List Pt).length = 0 := rfl
      rw [hn]
      go_enter Tryz.func51, Tryz.ntmps51
      go_wp2_with fail
      go_rounds 1
      go_ret
      exact ⟨_, rfl, Below.refl _ _⟩
    have hS : SizeZ 0 := fun W l v m q h => by
      rw [NdsIn] at h
      obtain rfl := h.zero
      obtain ⟨a, cap, rfl, _⟩ := h.len
      clear h
      have hn : ([] : List Nd).length = 0 := rfl
      rw [hn]
      go_enter Tryz.func37, Tryz.ntmps37
      go_wp2_with fail
      go_rounds 1
      go_ret
      exact ⟨_, rfl, Below.refl _ _⟩
    exact ⟨hP, hS⟩
  | d + 1 => by
    obtain ⟨h1, h2⟩ := sizes d
    exact ⟨fun W l v m q h => parts_step d h1 h2 l v m q W (by rw [PtsIn.succ] at h; exact h), fun W l v m q h => size_step d h1 h2 l v m q W (by rw [NdsIn.succ] at h; exact h)⟩
end Go.Proofs.YtnackmnoldkihaaGreatDoor
/-
  The walk of small.
-/
namespace Go.Proofs.YtnackmnoldkihaaGreatDoor
open Go.RowKit

theorem small_any (l : List Nd) (v : Value) (w : World) (d : Nat) (hl : NdsIn w w.heap.size d l v) :
    Calls Tryz.prog 8 #[v] w fun e w' => (∃ b, e = .returned (.bool b)) ∧ Below w.heap.size w w' := by
  have CS := Lib.hid ((sizes d).2 w l v 3000 100 hl)
  clear hl
  go_enter Tryz.func8, Tryz.ntmps8
  go_wp2_with fail
  refine CS.out.mono ?_
  rintro e w1 ⟨z, rfl, hb1⟩
  have HB1 := Lib.hid hb1
  clear hb1
  go_wp2_with fail
  go_ret
  exact ⟨⟨_, rfl⟩, HB1.out⟩

end Go.Proofs.YtnackmnoldkihaaGreatDoor
/-
  What lies in some blocks alone: a world from which the other blocks' cells are struck.
-/
namespace Go.Proofs.YtnackmnoldkihaaGreatDoor
open Go.RowKit

/-- w, the blocks that q doesn't name emptied. -/
def onlyW (w : World) (q : Nat → Bool) : World := { w with heap := w.heap.mapIdx fun i o => if q i then o else .cells #[] 0 (0, 0) }
theorem onlyW_size (w : World) (q : Nat → Bool) : (onlyW w q).heap.size = w.heap.size := by simp [onlyW]
theorem onlyW_yes (w : World) {q : Nat → Bool} {b : Nat} (h : q b = true) (o : Nat) : (onlyW w q).cell? ⟨b, o, none⟩ = w.cell? ⟨b, o, none⟩ := by
  simp only [World.cell?, onlyW, Array.getElem?_mapIdx]
  cases w.heap[b]? with
  | none => rfl
  | some x => simp [h]
theorem onlyW_no (w : World) {q : Nat → Bool} {b : Nat} (h : q b = false) (o : Nat) : (onlyW w q).cell? ⟨b, o, none⟩ = none := by
  simp only [World.cell?, onlyW, Array.getElem?_mapIdx]
  cases w.heap[b]? with
  | none => rfl
  | some x => simp [h]
/-- Slices stay, where the blocks that are named stay. -/
theorem Sl.only {w w' : World} {q q' : Nat → Bool} {B B' size n : Nat} {v : Value} {xs : List Value} (h : Sl (onlyW w q) B size v n xs) (hB : B ≤ B') (hk : ∀ b, b < B → q b = true → q' b = true ∧ ∀ o, w'.cell? ⟨b, o, none⟩ = w.cell? ⟨b, o, none⟩) : Sl (onlyW w' q') B' size v n xs := by
  obtain ⟨h1, a, cap, h2, h3, h4, h5⟩ := h
  refine ⟨h1, a, cap, h2, h3, h4, ?_⟩
  rcases h5 with h5 | ⟨b, off, ha, hb, hx⟩
  · exact .inl h5
  · refine .inr ⟨b, off, ha, by omega, fun j hj => ?_⟩
    have hxj := hx j hj
    cases hq : q b with
    | false =>
      rw [onlyW_no w hq, List.getElem?_eq_getElem (by omega)] at hxj
      cases hxj
    | true =>
      obtain ⟨hq', hc⟩ := hk b hb hq
      rw [onlyW_yes w hq] at hxj
      rw [onlyW_yes w' hq', hc]
      exact hxj
theorem Sl.off {w : World} {q : Nat → Bool} {B size n : Nat} {v : Value} {xs : List Value} (h : Sl (onlyW w q) B size v n xs) : Sl w B size v n xs := by
  obtain ⟨h1, a, cap, h2, h3, h4, h5⟩ := h
  refine ⟨h1, a, cap, h2, h3, h4, ?_⟩
  rcases h5 with h5 | ⟨b, off, ha, hb, hx⟩
  · exact .inl h5
  · refine .inr ⟨b, off, ha, hb, fun j hj => ?_⟩
    have hxj := hx j hj
    cases hq : q b with
    | false =>
      rw [onlyW_no w hq, List.getElem?_eq_getElem (by omega)] at hxj
      cases hxj
    | true => rw [onlyW_yes w hq] at hxj; exact hxj
theorem PtsIn.off {w : World} {q : Nat → Bool} {B d : Nat} {l : List Pt} {v : Value} (h : PtsIn (onlyW w q) B d l v) : PtsIn w B d l v := (in_keep (fun _ _ _ _ h => h.off) d).1 _ _ h
theorem NdsIn.off {w : World} {q : Nat → Bool} {B d : Nat} {l : List Nd} {v : Value} (h : NdsIn (onlyW w q) B d l v) : NdsIn w B d l v := (in_keep (fun _ _ _ _ h => h.off) d).2 _ _ h

/-- The blocks from n on, but for some and for one. -/
def freshB (n : Nat) (xs : List Nat) (g : Option Nat) (b : Nat) : Bool := decide (n ≤ b) && (!xs.contains b && !(g == some b))
theorem freshB_iff {n : Nat} {xs : List Nat} {g : Option Nat} {b : Nat} : freshB n xs g b = true ↔ n ≤ b ∧ b ∉ xs ∧ g ≠ some b := by simp [freshB]
/-- How what lies in new blocks alone is kept. -/
structure Kept (w : World) (n : Nat) (xs : List Nat) (g : Option Nat) (B : Nat) (w' : World) (n' : Nat) (xs' : List Nat) (g' : Option Nat) (B' : Nat) : Prop where
  le : B ≤ B'
  keep : ∀ b, b < B → n ≤ b → b ∉ xs → g ≠ some b → (n' ≤ b ∧ b ∉ xs' ∧ g' ≠ some b) ∧ ∀ o, w'.cell? ⟨b, o, none⟩ = w.cell? ⟨b, o, none⟩
section
variable {w w' : World} {n n' B B' : Nat} {xs xs' : List Nat} {g g' : Option Nat}
theorem Kept.sl (h : Kept w n xs g B w' n' xs' g' B') (size k : Nat) (v : Value) (us : List Value) (hs : Sl (onlyW w (freshB n xs g)) B size v k us) : Sl (onlyW w' (freshB n' xs' g')) B' size v k us :=
  hs.only h.le fun b hb hq => by
    obtain ⟨h1, h2, h3⟩ := freshB_iff.1 hq
    obtain ⟨h4, h5⟩ := h.keep b hb h1 h2 h3
    exact ⟨freshB_iff.2 h4, h5⟩
theorem Kept.trans {w2 : World} {n2 B2 : Nat} {xs2 : List Nat} {g2 : Option Nat} (h : Kept w n xs g B w' n' xs' g' B') (h' : Kept w' n' xs' g' B' w2 n2 xs2 g2 B2) : Kept w n xs g B w2 n2 xs2 g2 B2 :=
  ⟨Nat.le_trans h.le h'.le, fun b h1 h2 h3 h4 => by
    obtain ⟨⟨k1, k2, k3⟩, k4⟩ := h.keep b h1 h2 h3 h4
    obtain ⟨k5, k6⟩ := h'.keep b (Nat.lt_of_lt_of_le h1 h.le) k1 k2 k3
    exact ⟨k5, fun o => (k6 o).trans (k4 o)⟩⟩
theorem Kept.below (hb : Below w.heap.size w w') (hn : n' ≤ n) : Kept w n xs g w.heap.size w' n' xs g w'.heap.size :=
  ⟨hb.size, fun b h1 h2 h3 h4 => ⟨⟨by omega, h3, h4⟩, fun o => hb.cell (p := ⟨b, o, none⟩) h1⟩⟩
/-- Behind an append to a row. -/
theorem Kept.grown {row : Option Nat} {g' : Nat} (hg : w.grownBy w' row) (hr : row = some g' ∨ g' = w.heap.size) (hz : w.heap.size ≤ w'.heap.size) : Kept w n xs row w.heap.size w' n xs (some g') w'.heap.size :=
  ⟨hz, fun b h1 h2 h4 h3 => ⟨⟨h2, h4, fun e => by
      cases e
      rcases hr with hr | hr
      · exact h3 hr
      · omega⟩, fun o => World.cell?_of_block (hg.block b h1 (fun e => h3 e.symm))⟩⟩
/-- Where a block is written that is not among them. -/
theorem Kept.set {p : Addr} (hp : p.block ∈ xs) (u : Value) : Kept w n xs g w.heap.size (w.setCell p u) n xs g (w.setCell p u).heap.size :=
  ⟨by simp, fun b h1 h2 h3 h4 => ⟨⟨h2, h3, h4⟩, fun o => World.cell?_setCell_other w p _ u (fun e => by subst e; exact h3 hp)⟩⟩
/-- What is new is not in an old block. -/
theorem Kept.other {w : World} {n n' : Nat} {xs : List Nat} {g : Option Nat} (hn : n' ≤ n) (hx : ∀ b ∈ xs, b < n) (hg : ∀ b, g = some b → b < n) : Kept w n [] none w.heap.size w n' xs g w.heap.size :=
  ⟨Nat.le_refl _, fun b h1 h2 _ _ => ⟨⟨by omega, fun e => by have := hx b e; omega, fun e => by have := hg b e; omega⟩, fun o => rfl⟩⟩
theorem Kept.forget {w : World} {n : Nat} {xs : List Nat} {g : Option Nat} : Kept w n xs g w.heap.size w n [] none w.heap.size :=
  ⟨Nat.le_refl _, fun b h1 h2 _ _ => ⟨⟨h2, by simp, by simp⟩, fun o => rfl⟩⟩
theorem Kept.row {w : World} {n : Nat} {xs : List Nat} {g : Option Nat} : Kept w n xs g w.heap.size w n xs none w.heap.size :=
  ⟨Nat.le_refl _, fun b h1 h2 h3 _ => ⟨⟨h2, h3, by simp⟩, fun o => rfl⟩⟩
end
section
variable {w w' : World} {n n' B B' d : Nat} {xs xs' : List Nat} {g g' : Option Nat} (h : Kept w n xs g B w' n' xs' g' B')
include h
theorem Kept.pts {l : List Pt} {v : Value} (hl : PtsIn (onlyW w (freshB n xs g)) B d l v) : PtsIn (onlyW w' (freshB n' xs' g')) B' d l v := (in_keep h.sl d).1 _ _ hl
theorem Kept.nds {l : List Nd} {v : Value} (hl : NdsIn (onlyW w (freshB n xs g)) B d l v) : NdsIn (onlyW w' (freshB n' xs' g')) B' d l v := (in_keep h.sl d).2 _ _ hl
theorem Kept.wds {l : List (List Pt)} {v : Value} (hl : WdsIn (onlyW w (freshB n xs g)) B d l v) : WdsIn (onlyW w' (freshB n' xs' g')) B' d l v := hl.keep h.sl
theorem Kept.lss {l : List (List Nd)} {v : Value} (hl : LssIn (onlyW w (freshB n xs g)) B d l v) : LssIn (onlyW w' (freshB n' xs' g')) B' d l v := hl.keep h.sl
theorem Kept.ass {l : List As} {v : Value} (hl : AssIn (onlyW w (freshB n xs g)) B d l v) : AssIn (onlyW w' (freshB n' xs' g')) B' d l v := hl.imp (h.sl _ _ _) fun _ _ _ k => k.keep h.sl
theorem Kept.rds {l : List Rd} {v : Value} (hl : RdsIn (onlyW w (freshB n xs g)) B d l v) : RdsIn (onlyW w' (freshB n' xs' g')) B' d l v := hl.imp (h.sl _ _ _) fun _ _ _ k => k.keep h.sl
theorem Kept.ars {l : List Ar} {v : Value} (hl : ArsIn (onlyW w (freshB n xs g)) B d l v) : ArsIn (onlyW w' (freshB n' xs' g')) B' d l v := hl.imp (h.sl _ _ _) fun _ _ _ k => k.keep h.sl
theorem Kept.ptc {p : Pt} {c : List Value} (hl : PtC (onlyW w (freshB n xs g)) B d p c) : PtC (onlyW w' (freshB n' xs' g')) B' d p c := hl.keep h.sl
theorem Kept.asc {a : As} {c : List Value} (hl : AsC (onlyW w (freshB n xs g)) B d a c) : AsC (onlyW w' (freshB n' xs' g')) B' d a c := hl.keep h.sl
theorem Kept.rdc {a : Rd} {c : List Value} (hl : RdC (onlyW w (freshB n xs g)) B d a c) : RdC (onlyW w' (freshB n' xs' g')) B' d a c := hl.keep h.sl
theorem Kept.arc {a : Ar} {c : List Value} (hl : ArC (onlyW w (freshB n xs g)) B d a c) : ArC (onlyW w' (freshB n' xs' g')) B' d a c := hl.keep h.sl
theorem Kept.ndc {a : Nd} {c : List Value} (hl : NdC (onlyW w (freshB n xs g)) B d a c) : NdC (onlyW w' (freshB n' xs' g')) B' d a c := hl.keep h.sl
end

/-- What is told of things in new blocks stays where those stay. -/
def CKeeps {α : Type} (F : World → Nat → α → List Value → Prop) : Prop := ∀ {w w' : World} {n n' B B' : Nat} {xs xs' : List Nat} {g g' : Option Nat}, Kept w n xs g B w' n' xs' g' B' → ∀ x c, F (onlyW w (freshB n xs g)) B x c → F (onlyW w' (freshB n' xs' g')) B' x c
/-- So many things have been copied to a row of the call's own. -/
def Copied {α : Type} (w : World) (n : Nat) (xs : List Nat) (e : TypeId) (size : Nat) (F : World → Nat → α → List Value → Prop) (l : List α) (k : Nat) (v : Value) : Prop :=
  ∃ cs : List (List Value), cs.length = k ∧ (∀ c ∈ cs, c.length = size) ∧ w.ownsRow n e size v k cs.flatten ∧ ∀ (i : Nat) (x : α) (c : List Value), i < k → l[i]? = some x → cs[i]? = some c → F (onlyW w (freshB n xs v.ownBlock)) w.heap.size x c
section
variable {α : Type} {w w' : World} {n : Nat} {xs : List Nat} {e : TypeId} {size k : Nat} {F : World → Nat → α → List Value → Prop} {l : List α} {v : Value}
theorem Copied.start (w : World) (n : Nat) (xs : List Nat) (e : TypeId) (size : Nat) (F : World → Nat → α → List Value → Prop) (l : List α) : Copied w n xs e size F l 0 (.slice none 0 0) :=
  ⟨[], rfl, by simp, ⟨by simp, .inl ⟨rfl, rfl⟩⟩, fun i x c hi => by omega⟩
theorem Copied.own (h : Copied w n xs e size F l k v) : ∃ cs : List (List Value), cs.length = k ∧ w.ownsRow n e size v k cs.flatten := by
  obtain ⟨cs, h1, _, h3, _⟩ := h
  exact ⟨cs, h1, h3⟩
theorem Copied.moved (h : Copied w n xs e size F l k v) (hF : CKeeps F) (hK : Kept w n xs v.ownBlock w.heap.size w' n xs v.ownBlock w'.heap.size) (ho : ∀ us, w.ownsRow n e size v k us → w'.ownsRow n e size v k us) : Copied w' n xs e size F l k v := by
  obtain ⟨cs, h1, h2, h3, h4⟩ := h
  exact ⟨cs, h1, h2, ho _ h3, fun i x c hi hx hc => hF hK x c (h4 i x c hi hx hc)⟩
theorem Copied.push {w4 w5 : World} {x : α} {c : List Value} {g cap : Nat} (hg : w4.grownBy w5 v.ownBlock) (hr : v.ownBlock = some g ∨ g = w4.heap.size) {cs : List (List Value)} (ho : w5.ownsRow n e size (.slice (some ⟨g, 0, none⟩) (k + 1) cap) (k + 1) (cs.flatten ++ c))
    (hF : CKeeps F)
    (hb : Below w.heap.size w w4) (hl : cs.length = k) (hs : ∀ c ∈ cs, c.length = size) (hall : ∀ (i : Nat) (x : α) (c : List Value), i < k → l[i]? = some x → cs[i]? = some c → F (onlyW w (freshB n xs v.ownBlock)) w.heap.size x c)
    (hx : l[k]? = some x) (hc : c.length = size) (hnew : F (onlyW w4 (freshB n xs v.ownBlock)) w4.heap.size x c) : Copied w5 n xs e size F l (k + 1) (.slice (some ⟨g, 0, none⟩) (k + 1) cap) := by
  have K1 := Kept.below (n := n) (n' := n) (xs := xs) (g := v.ownBlock) hb (Nat.le_refl _)
  have K2 := Kept.grown (n := n) (xs := xs) hg hr hg.size
  have hob : (Value.slice (some ⟨g, 0, none⟩) (k + 1) cap).ownBlock = some g := rfl
  refine ⟨cs ++ [c], by simp [hl], fun d hd => ?_, ?_, fun i y d hi hy hd => ?_⟩
  · rcases List.mem_append.1 hd with hd | hd
    · exact hs d hd
    · simp at hd; subst hd; exact hc
  · rw [List.flatten_append]; simpa using ho
  · rw [hob]
    by_cases hik : i < k
    · rw [List.getElem?_append_left (by omega)] at hd
      exact hF K2 _ _ (hF K1 _ _ (hall i y d hik hy hd))
    · obtain rfl : i = k := by omega
      rw [List.getElem?_append_right (by omega), hl, Nat.sub_self] at hd
      simp at hd; subst hd
      rw [hx] at hy; cases hy
      exact hF K2 _ _ hnew
/-- The row, when all have been copied. -/
theorem Copied.done (h : Copied w n xs e size F l l.length v) (hl : l.length ≤ bigN) (hF : CKeeps F) (hxs : ∀ b, v.ownBlock = some b → b ∉ xs) : SlOf (onlyW w (freshB n xs none)) w.heap.size size (F (onlyW w (freshB n xs none)) w.heap.size) l v := by
  obtain ⟨cs, h1, h2, h3, h4⟩ := h
  refine ⟨hl, cs, h1, h2, ?_, fun i x c hx hc => hF Kept.row x c (h4 i x c (List.getElem?_eq_some_iff.1 hx).1 hx hc)⟩
  have hs := Sl.of_own h3
  obtain ⟨k1, a, cap, rfl, k3, k4, k5⟩ := hs
  refine ⟨k1, a, cap, rfl, k3, k4, ?_⟩
  rcases k5 with k5 | ⟨b, off, rfl, kb, kc⟩
  · exact .inl k5
  · refine .inr ⟨b, off, rfl, kb, fun j hj => ?_⟩
    have hob : n ≤ b := (World.ownsRow.lt h3 _ rfl).1
    rw [onlyW_yes w (freshB_iff.2 ⟨hob, hxs b rfl, by simp⟩)]
    exact kc j hj
end
section
variable {w' : World} {m d : Nat}
theorem later_pts {l : List Pt} {v : Value} (h : PtsIn (onlyW w' (freshB m [] none)) w'.heap.size d l v) : ∀ W', Below w'.heap.size w' W' → ∀ n xs g, n ≤ m → (∀ b ∈ xs, b < m) → (∀ b, g = some b → b < m) → PtsIn (onlyW W' (freshB n xs g)) W'.heap.size d l v :=
  fun _ hb _ _ _ hn hx hg => (Kept.other hn hx hg).pts ((Kept.below hb (Nat.le_refl m)).pts h)
theorem later_nds {l : List Nd} {v : Value} (h : NdsIn (onlyW w' (freshB m [] none)) w'.heap.size d l v) : ∀ W', Below w'.heap.size w' W' → ∀ n xs g, n ≤ m → (∀ b ∈ xs, b < m) → (∀ b, g = some b → b < m) → NdsIn (onlyW W' (freshB n xs g)) W'.heap.size d l v :=
  fun _ hb _ _ _ hn hx hg => (Kept.other hn hx hg).nds ((Kept.below hb (Nat.le_refl m)).nds h)
theorem later_wds {l : List (List Pt)} {v : Value} (h : WdsIn (onlyW w' (freshB m [] none)) w'.heap.size d l v) : ∀ W', Below w'.heap.size w' W' → ∀ n xs g, n ≤ m → (∀ b ∈ xs, b < m) → (∀ b, g = some b → b < m) → WdsIn (onlyW W' (freshB n xs g)) W'.heap.size d l v :=
  fun _ hb _ _ _ hn hx hg => (Kept.other hn hx hg).wds ((Kept.below hb (Nat.le_refl m)).wds h)
theorem later_ndc {x : Nd} {c : List Value} (h : NdC (onlyW w' (freshB m [] none)) w'.heap.size d x c) : ∀ W', Below w'.heap.size w' W' → ∀ n xs g, n ≤ m → (∀ b ∈ xs, b < m) → (∀ b, g = some b → b < m) → NdC (onlyW W' (freshB n xs g)) W'.heap.size d x c :=
  fun _ hb _ _ _ hn hx hg => (Kept.other hn hx hg).ndc ((Kept.below hb (Nat.le_refl m)).ndc h)
theorem later_rdc {x : Rd} {c : List Value} (h : RdC (onlyW w' (freshB m [] none)) w'.heap.size d x c) : ∀ W', Below w'.heap.size w' W' → ∀ n xs g, n ≤ m → (∀ b ∈ xs, b < m) → (∀ b, g = some b → b < m) → RdC (onlyW W' (freshB n xs g)) W'.heap.size d x c :=
  fun _ hb _ _ _ hn hx hg => (Kept.other hn hx hg).rdc ((Kept.below hb (Nat.le_refl m)).rdc h)
end
end Go.Proofs.YtnackmnoldkihaaGreatDoor
namespace Go.Proofs.YtnackmnoldkihaaGreatDoor
open Go.RowKit

/-- A copy of a word: in new blocks alone. -/
def WordC (d : Nat) : Prop := ∀ (W : World) (l : List Pt) (v : Value), PtsIn W W.heap.size d l v →
  Calls Tryz.prog 14 #[v] W fun e W' => ∃ a c, e = .returned (.slice a l.length c) ∧ PtsIn (onlyW W' (freshB W.heap.size [] none)) W'.heap.size d l (.slice a l.length c) ∧ Below W.heap.size W W'
def NodesC (d : Nat) : Prop := ∀ (W : World) (l : List Nd) (v : Value), NdsIn W W.heap.size d l v →
  Calls Tryz.prog 9 #[v] W fun e W' => ∃ a c, e = .returned (.slice a l.length c) ∧ NdsIn (onlyW W' (freshB W.heap.size [] none)) W'.heap.size d l (.slice a l.length c) ∧ Below W.heap.size W W'
theorem infoP14 : (Tryz.prog.info? 72).map (fun i => (i.zero, i.size, i.bytes)) = some (some (.agg #[.int .i64 0, .bool false, .string ByteArray.empty, .string ByteArray.empty, .slice none 0 0, .slice none 0 0]), 6, 96) := by kernel_rfl

set_option maxHeartbeats 2000000 in
set_option maxRecDepth 100000 in
theorem word_copy (d : Nat) (hWC : WordC d) (hNC : NodesC d) (l : List Pt) (v : Value) (w : World) (hl : SlOf w w.heap.size 6 (PtC w w.heap.size d) l v) :
    Calls Tryz.prog 14 #[v] w fun e W' => ∃ a c, e = .returned (.slice a l.length c) ∧ SlOf (onlyW W' (freshB w.heap.size [] none)) W'.heap.size 6 (PtC (onlyW W' (freshB w.heap.size [] none)) W'.heap.size d) l (.slice a l.length c) ∧ Below w.heap.size w W' := by
  obtain ⟨a, cap, rfl, hz⟩ := hl.len
  obtain ⟨n, hn⟩ : ∃ n, l.length = n := ⟨_, rfl⟩
  rw [hn] at hl hz ⊢
  have HL := Lib.hid hl
  have HN := Lib.hid hn
  have HWC := Lib.hid hWC
  have HNC := Lib.hid hNC
  clear hl hn hWC hNC
  go_enter Tryz.func14, Tryz.ntmps14
  go_wp2_with fail
  go_loopw [3, 8] (fun t i W => ∃ k : Nat, k ≤ n ∧ i = .int .i64 k ∧ Copied W w.heap.size [] 72 6 (fun w B => PtC w B d) l k t ∧ Below w.heap.size w W) (fun _ i _ => n - (intOf i).toNat)
  case atStart => exact ⟨0, Nat.zero_le _, rfl, Copied.start _ _ _ _ _ _ _, Below.refl _ _⟩
  case round =>
    obtain ⟨k, hk, rfl, hcp, hB⟩ := hrel
    have hBz := hB.size
    by_cases hlt : k < n
    · obtain ⟨x, hx⟩ : ∃ x, l[k]? = .some x := ⟨_, List.getElem?_eq_getElem (by rw [HN.out]; exact hlt)⟩
      have HX := Lib.hid hx
      obtain ⟨b, o, c, hi, hbB, hce, hC, _⟩ := HL.out.at 29 44 Tryz.underlying29 (by kernel_rfl) hx
      obtain ⟨a1, c1, a2, c2, rfl, ⟨hxz, hxz2⟩, _, hP, hS⟩ := hC.open
      have HXZ := Lib.hid hxz
      have HXZ2 := Lib.hid hxz2
      obtain ⟨cs, q1, q2, q3, q4⟩ := hcp
      obtain ⟨sa, sc, rfl⟩ := own_shape q3
      have Q1 := Lib.hid q1
      have Q2 := Lib.hid q2
      have Q3 := Lib.hid q3
      have Q4 := Lib.hid q4
      have HP : Hid (PtsIn w w.heap.size d x.word (.slice a1 x.word.length c1)) := Lib.hid hP
      have HS : Hid (NdsIn w w.heap.size d x.body (.slice a2 x.body.length c2)) := Lib.hid hS
      have e0 := (hB.cell hbB).trans (hce 0 _ rfl)
      have e1 := (hB.cell hbB).trans (hce 1 _ rfl)
      have e2 := (hB.cell hbB).trans (hce 2 _ rfl)
      have e3 := (hB.cell hbB).trans (hce 3 _ rfl)
      have e4 := (hB.cell hbB).trans (hce 4 _ rfl)
      have e5 := (hB.cell hbB).trans (hce 5 _ rfl)
      have hbB' := Nat.lt_of_lt_of_le hbB hB.size
      rw [Nat.add_zero] at e0
      clear hx hce hP hS hC hxz hxz2 q1 q2 q3 q4
      go_upto_region 5 with fail
      obtain ⟨X, hX⟩ : ∃ X, X = wr.alloc (.cells #[.int .i64 x.kind, .bool x.quoted, .string x.text, .string x.op, .slice a1 x.word.length c1, .slice a2 x.body.length c2] 44) := ⟨_, rfl⟩
      have HBX : Hid (Below wr.heap.size wr X) := Lib.hid (by rw [hX]; exact (by repeat' (first | (with_reducible assumption) | (with_reducible exact Below.refl _ _) | (with_reducible refine below_drewN ?_ _) | (with_reducible refine below_bytes ?_ ?_ _) | (with_reducible refine Below.alloc ?_ ?_ _) | (with_reducible refine Below.drew ?_) | (with_reducible refine Below.setCell ?_ ?_ _) | go_size)))
      have x0 : X.cell? ⟨wr.heap.size, 0, none⟩ = some (.int .i64 x.kind) := by rw [hX]; simp
      have x1 : X.cell? ⟨wr.heap.size, 1, none⟩ = some (.bool x.quoted) := by rw [hX]; simp
      have x2 : X.cell? ⟨wr.heap.size, 2, none⟩ = some (.string x.text) := by rw [hX]; simp
      have x3 : X.cell? ⟨wr.heap.size, 3, none⟩ = some (.string x.op) := by rw [hX]; simp
      have x4 : X.cell? ⟨wr.heap.size, 4, none⟩ = some (.slice a1 x.word.length c1) := by rw [hX]; simp
      have x5 : X.cell? ⟨wr.heap.size, 5, none⟩ = some (.slice a2 x.body.length c2) := by rw [hX]; simp
      have hgX : wr.heap.size < X.heap.size := by rw [hX]; simp
      rw [← hX]
      clear hX
      have hBX : Below w.heap.size w X := hB.trans (HBX.out.mono hBz)
      have hBXz := hBX.size
      have HRW : Hid (∀ b, (Value.slice sa k sc).ownBlock = some b → w.heap.size ≤ b ∧ b < X.heap.size) := Lib.hid fun b e => by
        obtain ⟨h1, h2⟩ := World.ownsRow.lt Q3.out _ e
        exact ⟨h1, by omega⟩
      have CP : Hid (∀ W, Below X.heap.size X W → Calls Tryz.prog 14 #[.slice a1 x.word.length c1] W fun e W' => ∃ a c, e = .returned (.slice a x.word.length c) ∧ (∀ W2, Below W'.heap.size W' W2 → ∀ g, (∀ b, g = some b → w.heap.size ≤ b ∧ b < X.heap.size) → PtsIn (onlyW W2 (freshB w.heap.size [] g)) W2.heap.size d x.word (.slice a x.word.length c)) ∧ Below X.heap.size X W' ∧ Below W.heap.size W W') :=
        Lib.hid fun W hW => (HWC.out W _ _ ((HP.out.below (hBX.trans (hW.mono hBX.size))).mono (Nat.le_trans hBX.size hW.size))).mono fun e W' ⟨a, c, h1, h2, h3⟩ =>
          ⟨a, c, h1, fun W2 hb g hg => later_pts h2 W2 hb _ [] g (Nat.le_trans hBX.size hW.size) (by simp) fun b e => Nat.lt_of_lt_of_le (hg b e).2 hW.size, hW.trans (h3.mono hW.size), h3⟩
      have CN : Hid (∀ W, Below X.heap.size X W → Calls Tryz.prog 9 #[.slice a2 x.body.length c2] W fun e W' => ∃ a c, e = .returned (.slice a x.body.length c) ∧ (∀ W2, Below W'.heap.size W' W2 → ∀ g, (∀ b, g = some b → w.heap.size ≤ b ∧ b < X.heap.size) → NdsIn (onlyW W2 (freshB w.heap.size [] g)) W2.heap.size d x.body (.slice a x.body.length c)) ∧ Below X.heap.size X W' ∧ Below W.heap.size W W') :=
        Lib.hid fun W hW => (HNC.out W _ _ ((HS.out.below (hBX.trans (hW.mono hBX.size))).mono (Nat.le_trans hBX.size hW.size))).mono fun e W' ⟨a, c, h1, h2, h3⟩ =>
          ⟨a, c, h1, fun W2 hb g hg => later_nds h2 W2 hb _ [] g (Nat.le_trans hBX.size hW.size) (by simp) fun b e => Nat.lt_of_lt_of_le (hg b e).2 hW.size, hW.trans (h3.mono hW.size), h3⟩
      clear e0 e1 e2 e3 e4 e5 hi
      go_region_held3 (fun w' => w'.cell? ⟨wr.heap.size, 0, none⟩ = some (.int .i64 x.kind) ∧ w'.cell? ⟨wr.heap.size, 1, none⟩ = some (.bool x.quoted) ∧ w'.cell? ⟨wr.heap.size, 2, none⟩ = some (.string x.text) ∧ w'.cell? ⟨wr.heap.size, 3, none⟩ = some (.string x.op) ∧ w'.cell? ⟨wr.heap.size, 4, none⟩ = some (.slice a1 x.word.length c1) ∧ w'.cell? ⟨wr.heap.size, 5, none⟩ = some (.slice a2 x.body.length c2)) (first | exact ⟨f0, f1, f2, f3, f4, f5⟩ | exact ⟨d0, d1, d2, d3, d4, d5⟩ | go_keep)
        (first
          | (go_at_call 14; with_reducible refine (CP.out _ (by repeat' (first | (with_reducible assumption) | (with_reducible exact Below.refl _ _) | (with_reducible refine below_drewN ?_ _) | (with_reducible refine below_bytes ?_ ?_ _) | (with_reducible refine Below.alloc ?_ ?_ _) | (with_reducible refine Below.drew ?_) | (with_reducible refine Below.setCell ?_ ?_ _) | go_size))).mono ?_; rintro e w1 ⟨av, cv, rfl, hq1, hb1, hc1⟩;
             have hr1 : Below wr.heap.size wr w1 := HBX.out.trans (hb1.mono HBX.out.size); have hs1 := hr1.size; have hz1 := hc1.size; (try simp only [World.size_alloc, World.size_setCell, World.size_drew, size_drewN] at hz1); have HQ1 := Lib.hid hq1; clear hq1; have d0 := (hb1.cell hgX).trans x0; have d1 := (hb1.cell hgX).trans x1; have d2 := (hb1.cell hgX).trans x2; have d3 := (hb1.cell hgX).trans x3; have d4 := (hb1.cell hgX).trans x4; have d5 := (hb1.cell hgX).trans x5)
          | (go_at_call 9; with_reducible refine (CN.out _ (by repeat' (first | (with_reducible assumption) | (with_reducible exact Below.refl _ _) | (with_reducible refine below_drewN ?_ _) | (with_reducible refine below_bytes ?_ ?_ _) | (with_reducible refine Below.alloc ?_ ?_ _) | (with_reducible refine Below.drew ?_) | (with_reducible refine Below.setCell ?_ ?_ _) | go_size))).mono ?_; rintro e w2 ⟨ab, cb, rfl, hq2, hb2, hc2⟩;
             have hr2 : Below wr.heap.size wr w2 := HBX.out.trans (hb2.mono HBX.out.size); have hs2 := hr2.size; have hz2 := hc2.size; (try simp only [World.size_alloc, World.size_setCell, World.size_drew, size_drewN] at hz2); have HQ2 := Lib.hid hq2; clear hq2; have d0 := (hb2.cell hgX).trans x0; have d1 := (hb2.cell hgX).trans x1; have d2 := (hb2.cell hgX).trans x2; have d3 := (hb2.cell hgX).trans x3; have d4 := (hb2.cell hgX).trans x4; have d5 := (hb2.cell hgX).trans x5)
          | (refine step_append_sl rfl _ _ 41 rfl w.heap.size 72 Tryz.underlying41 infoP14 rfl (by decide) (v := .slice sa k sc) (n := k) (xs := cs.flatten) rfl (own_below Q3.out (by repeat' (first | (with_reducible assumption) | (with_reducible exact Below.refl _ _) | (with_reducible refine below_drewN ?_ _) | (with_reducible refine below_bytes ?_ ?_ _) | (with_reducible refine Below.alloc ?_ ?_ _) | (with_reducible refine Below.drew ?_) | (with_reducible refine Below.setCell ?_ ?_ _) | go_size))) (m := 1) (news := [.int .i64 x.kind, .bool x.quoted, .string x.text, .string x.op, .slice av x.word.length cv, .slice ab x.body.length cb]) rfl (sl_made_at _ #[.int .i64 x.kind, .bool x.quoted, .string x.text, .string x.op, .slice av x.word.length cv, .slice ab x.body.length cb] _ 1 6 rfl (by unfold maxLen; omega) (by simp)) (by omega) (by intro u hu; simp at hu; rcases hu with rfl | rfl | rfl | rfl | rfl | rfl <;> rfl) (by omega) (by simp; omega) ?_; intro g cap1 w5 hown hgrow hlie hglt
             have HB5 := Lib.hid (Below.grown (B := w.heap.size) (a := w) (hB.trans (Below.mono (B := wr.heap.size) (by repeat' (first | (with_reducible assumption) | (with_reducible exact Below.refl _ _) | (with_reducible refine below_drewN ?_ _) | (with_reducible refine below_bytes ?_ ?_ _) | (with_reducible refine Below.alloc ?_ ?_ _) | (with_reducible refine Below.drew ?_) | (with_reducible refine Below.setCell ?_ ?_ _) | go_size)) hBz)) hgrow (by simp; omega) (fun k e => (HRW.out k e).1))
             have HP5 := Lib.hid (Copied.push (F := fun w B => PtC w B d) (l := l) (x := x) hgrow hlie hown (fun h x c => h.ptc) (w := wr) (by repeat' (first | (with_reducible assumption) | (with_reducible exact Below.refl _ _) | (with_reducible refine below_drewN ?_ _) | (with_reducible refine below_bytes ?_ ?_ _) | (with_reducible refine Below.alloc ?_ ?_ _) | (with_reducible refine Below.drew ?_) | (with_reducible refine Below.setCell ?_ ?_ _) | go_size)) Q1.out Q2.out Q4.out HX.out rfl ⟨HXZ.out, HXZ2.out, _, _, rfl, HQ1.out _ (by repeat' (first | (with_reducible assumption) | (with_reducible exact Below.refl _ _) | (with_reducible refine below_drewN ?_ _) | (with_reducible refine below_bytes ?_ ?_ _) | (with_reducible refine Below.alloc ?_ ?_ _) | (with_reducible refine Below.drew ?_) | (with_reducible refine Below.setCell ?_ ?_ _) | go_size)) _ HRW.out, HQ2.out _ (by repeat' (first | (with_reducible assumption) | (with_reducible exact Below.refl _ _) | (with_reducible refine below_drewN ?_ _) | (with_reducible refine below_bytes ?_ ?_ _) | (with_reducible refine Below.alloc ?_ ?_ _) | (with_reducible refine Below.drew ?_) | (with_reducible refine Below.setCell ?_ ?_ _) | go_size)) _ HRW.out⟩)
             have hne5 : some wr.heap.size ≠ (Value.slice sa k sc).ownBlock := fun e => by have := World.ownsRow.lt Q3.out _ e.symm; omega
             have hbk5 := hgrow.block wr.heap.size (by simp; omega) hne5
             have f0 := (World.cell?_of_block (a := ⟨wr.heap.size, 0, none⟩) hbk5).trans ((Below.cell (B := X.heap.size) (p := ⟨wr.heap.size, 0, none⟩) (by repeat' (first | (with_reducible assumption) | (with_reducible exact Below.refl _ _) | (with_reducible refine below_drewN ?_ _) | (with_reducible refine below_bytes ?_ ?_ _) | (with_reducible refine Below.alloc ?_ ?_ _) | (with_reducible refine Below.drew ?_) | (with_reducible refine Below.setCell ?_ ?_ _) | go_size)) hgX).trans x0)
             have f1 := (World.cell?_of_block (a := ⟨wr.heap.size, 1, none⟩) hbk5).trans ((Below.cell (B := X.heap.size) (p := ⟨wr.heap.size, 1, none⟩) (by repeat' (first | (with_reducible assumption) | (with_reducible exact Below.refl _ _) | (with_reducible refine below_drewN ?_ _) | (with_reducible refine below_bytes ?_ ?_ _) | (with_reducible refine Below.alloc ?_ ?_ _) | (with_reducible refine Below.drew ?_) | (with_reducible refine Below.setCell ?_ ?_ _) | go_size)) hgX).trans x1)
             have f2 := (World.cell?_of_block (a := ⟨wr.heap.size, 2, none⟩) hbk5).trans ((Below.cell (B := X.heap.size) (p := ⟨wr.heap.size, 2, none⟩) (by repeat' (first | (with_reducible assumption) | (with_reducible exact Below.refl _ _) | (with_reducible refine below_drewN ?_ _) | (with_reducible refine below_bytes ?_ ?_ _) | (with_reducible refine Below.alloc ?_ ?_ _) | (with_reducible refine Below.drew ?_) | (with_reducible refine Below.setCell ?_ ?_ _) | go_size)) hgX).trans x2)
             have f3 := (World.cell?_of_block (a := ⟨wr.heap.size, 3, none⟩) hbk5).trans ((Below.cell (B := X.heap.size) (p := ⟨wr.heap.size, 3, none⟩) (by repeat' (first | (with_reducible assumption) | (with_reducible exact Below.refl _ _) | (with_reducible refine below_drewN ?_ _) | (with_reducible refine below_bytes ?_ ?_ _) | (with_reducible refine Below.alloc ?_ ?_ _) | (with_reducible refine Below.drew ?_) | (with_reducible refine Below.setCell ?_ ?_ _) | go_size)) hgX).trans x3)
             have f4 := (World.cell?_of_block (a := ⟨wr.heap.size, 4, none⟩) hbk5).trans ((Below.cell (B := X.heap.size) (p := ⟨wr.heap.size, 4, none⟩) (by repeat' (first | (with_reducible assumption) | (with_reducible exact Below.refl _ _) | (with_reducible refine below_drewN ?_ _) | (with_reducible refine below_bytes ?_ ?_ _) | (with_reducible refine Below.alloc ?_ ?_ _) | (with_reducible refine Below.drew ?_) | (with_reducible refine Below.setCell ?_ ?_ _) | go_size)) hgX).trans x4)
             have f5 := (World.cell?_of_block (a := ⟨wr.heap.size, 5, none⟩) hbk5).trans ((Below.cell (B := X.heap.size) (p := ⟨wr.heap.size, 5, none⟩) (by repeat' (first | (with_reducible assumption) | (with_reducible exact Below.refl _ _) | (with_reducible refine below_drewN ?_ _) | (with_reducible refine below_bytes ?_ ?_ _) | (with_reducible refine Below.alloc ?_ ?_ _) | (with_reducible refine Below.drew ?_) | (with_reducible refine Below.setCell ?_ ?_ _) | go_size)) hgX).trans x5)
             clear hown hgrow hlie hglt hbk5
))
      all_goals
        go_wp2_with fail
        go_roundw
        case rel => exact ⟨k + 1, by omega, by go_num, HP5.out, HB5.out⟩
        case measure => simp [intOf]; omega
    · obtain rfl : k = n := by omega
      have HCP := Lib.hid hcp
      obtain ⟨cs, q1, q2, q3, q4⟩ := hcp
      obtain ⟨sa, sc, rfl⟩ := own_shape q3
      clear q1 q2 q3 q4
      go_wp2_with fail
      go_ret
      exact ⟨_, _, rfl, Copied.done (F := fun w B => PtC w B d) (by rw [HN.out]; exact HCP.out) (by rw [HN.out]; exact hz) (fun h x c => h.ptc) (by simp), hB⟩
end Go.Proofs.YtnackmnoldkihaaGreatDoor
