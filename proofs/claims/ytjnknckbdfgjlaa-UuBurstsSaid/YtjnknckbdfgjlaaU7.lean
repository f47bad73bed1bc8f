/-
  Walks of the reader of lines and of uu.Decode.
-/
import Derived.Test.YtjnknckbdfgjlaaU6
namespace Go.Proofs.Ytjnknckbdfgjlaa
open Go.RowKit

/-! ### plain -/
def lineOf (l : List UInt8) : List UInt8 := l.takeWhile (fun c => c != 10)
def after (l : List UInt8) : List UInt8 := (l.dropWhile (fun c => c != 10)).drop 1
theorem lineOf_no (l : List UInt8) : (10 : UInt8) ∉ lineOf l := by
  induction l with
  | nil => simp [lineOf]
  | cons c l ih =>
    by_cases hc : c = 10
    · simp [lineOf, hc]
    · have e1 : lineOf (c :: l) = c :: lineOf l := by simp [lineOf, hc]
      rw [e1]
      simp only [List.mem_cons, not_or]
      exact ⟨fun e => hc e.symm, ih⟩
theorem line_after {l : List UInt8} (h : (10 : UInt8) ∈ l) : l = lineOf l ++ 10 :: after l := by
  induction l with
  | nil => cases h
  | cons c l ih =>
    by_cases hc : c = 10
    · subst hc; simp [lineOf, after]
    · have h2 : (10 : UInt8) ∈ l := by
        rcases List.mem_cons.1 h with h | h
        · exact absurd h.symm hc
        · exact h
      have e1 : lineOf (c :: l) = c :: lineOf l := by simp [lineOf, hc]
      have e2 : after (c :: l) = after l := by simp [after, hc]
      rw [e1, e2, List.cons_append, ← ih h2]
theorem after_lt {l : List UInt8} (h : (10 : UInt8) ∈ l) : (after l).length < l.length := by
  have := congrArg List.length (line_after h)
  simp at this; omega

/-- The bytes of the lines. -/
def decLoop (l : List UInt8) : Option (List UInt8) :=
  if _h : (10 : UInt8) ∈ l then
    match bytesP (lineOf l) with
    | none => none
    | some d => if d = [] then (if after l = [101, 110, 100, 10] then some [] else none) else (decLoop (after l)).map (d ++ ·)
  else none
  termination_by l.length
  decreasing_by exact after_lt (by assumption)
theorem decLoop_no {l : List UInt8} (h : (10 : UInt8) ∉ l) : decLoop l = none := by rw [decLoop, dif_neg h]
theorem decLoop_yes {l : List UInt8} (h : (10 : UInt8) ∈ l) : decLoop l = match bytesP (lineOf l) with
    | none => none
    | some d => if d = [] then (if after l = [101, 110, 100, 10] then some [] else none) else (decLoop (after l)).map (d ++ ·) := by rw [decLoop, dif_pos h]

/-- What a text is, read whole. -/
def decodeP (l : List UInt8) : Option (Nat × List UInt8 × List UInt8) :=
  if (10 : UInt8) ∈ l then (headP (lineOf l)).bind fun r => (decLoop (after l)).map fun d => (r.1, r.2, d) else none

/-! ### memory -/
theorem Bld.setCell_below {w : World} {B b : Nat} {l : List UInt8} (h : Bld w B b l) {a : Addr} (ha : a.block < B) (v : Value) : Bld (w.setCell a v) B b l := by
  have key : ∀ p, Lib.BuilderAt 49 5 B b p (Lib.byteCells l) w → Lib.BuilderAt 49 5 B b p (Lib.byteCells l) (w.setCell a v) := by
    rintro p ⟨h1, u, h2, h3, h4⟩
    exact ⟨h1, u, by rw [Below.heap_setCell _ _ _ _ (by omega)]; exact h2, ownsRow_setCell_below h3 ha v, h4⟩
  rcases h with h | h
  · exact .inl (key _ h)
  · exact .inr (key _ h)

/-- The reader in block r still holds the text t. -/
def Rd (w : World) (r : Nat) (t : ByteArray) : Prop := w.cell? ⟨r, 0, none⟩ = some (.string t) ∧ w.frozen? ⟨r, 0, none⟩ = false

theorem Rd.below {w w' : World} {r B : Nat} {t : ByteArray} (h : Rd w r t) (hb : Below B w w') (hr : r < B) : Rd w' r t := by
  obtain ⟨h1, h2⟩ := h
  exact ⟨by rw [hb.cell (p := ⟨r, 0, none⟩) hr]; exact h1, by rw [hb.frozen (p := ⟨r, 0, none⟩) hr]; exact h2⟩

set_option maxHeartbeats 400000 in
theorem next_yes (r : Nat) (t : ByteArray) (w : World) (h : Rd w r t) (ht : t.size ≤ 100000) (hv : Held w) (hr : r < w.heap.size) (hl : (10 : UInt8) ∈ L t) :
    Calls Try.prog 27 #[.pointer (some ⟨r, 0, none⟩)] w fun e w' => e = .returned (.tuple #[.string (S (lineOf (L t))), .bool true]) ∧
      ∃ w1, Below w.heap.size w w1 ∧ w' = w1.setCell ⟨r, 0, none⟩ (.string (S (after (L t)))) := by
  have hcut := cut_any t ⟨#[10]⟩ _ _ true w (by omega) hv (cut_some (line_after hl) (lineOf_no _))
  have HC := Lib.hid hcut
  have HH := Lib.hid h
  obtain ⟨h1, h2⟩ := h
  clear hcut hl
  go_enter Try.func27, Try.ntmps27
  go_wp2_with fail
  refine HC.out.mono ?_
  rintro e w1 ⟨rfl, hb1⟩
  have h3 := (HH.out.below hb1 hr).1
  have h4 := (HH.out.below hb1 hr).2
  go_wp2_with fail
  go_ret2
  exact ⟨rfl, w1, hb1, rfl⟩

set_option maxHeartbeats 400000 in
theorem next_no (r : Nat) (t : ByteArray) (w : World) (h : Rd w r t) (ht : t.size ≤ 100000) (hv : Held w) (hl : (10 : UInt8) ∉ L t) :
    Calls Try.prog 27 #[.pointer (some ⟨r, 0, none⟩)] w fun e w' => e = .returned (.tuple #[.string t, .bool false]) ∧ Below w.heap.size w w' := by
  have hcut := cut_any t ⟨#[10]⟩ _ _ false w (by omega) hv (cut_none hl)
  have HC := Lib.hid hcut
  obtain ⟨h1, h2⟩ := h
  clear hcut hl
  go_enter Try.func27, Try.ntmps27
  go_wp2_with fail
  refine HC.out.mono ?_
  rintro e w1 ⟨rfl, hb1⟩
  go_wp2_with fail
  go_ret2
  exact ⟨rfl, hb1⟩

/-- What Decode hands back. -/
def decV : Option (Nat × List UInt8 × List UInt8) → Value
  | some (m, n, d) => .tuple #[.int .i64 (m : Nat), .string (S n), .string (S d), .int .i64 0]
  | none => .tuple #[.int .i64 0, .string ⟨#[]⟩, .string ⟨#[]⟩, .int .i64 11]
end Go.Proofs.Ytjnknckbdfgjlaa
