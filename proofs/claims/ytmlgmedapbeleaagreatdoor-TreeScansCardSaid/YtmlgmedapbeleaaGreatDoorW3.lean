/-
  The walk of Make.
-/
import Derived.Test.YtmlgmedapbeleaaGreatDoorW1
import Derived.Test.YtmlgmedapbeleaaGreatDoorW2
import Derived.Deep.QuietTactic
import Derived.BigQuiet
import Derived.Deep.RegionHeld3
import Derived.Lib.SplitLaws
import Derived.Lib.IndexLaws
import Derived.Lib.IndexBytes
import Derived.Sort.Walk0
set_option linter.unusedVariables false
set_option linter.unusedSimpArgs false
/-
  The walks of the paths' last part and of what stands ahead of it: the program's, and the document's.
-/
namespace Go.Proofs.YtmlgmedapbeleaaGreatDoor
open Go.RowKit

theorem isEmpty_L (s : ByteArray) : s.toList.isEmpty = (L s).isEmpty := by rw [toList_L]
theorem toList_S (l : List UInt8) : (S l).toList = l := by rw [toList_L, L_S]

theorem trimRight_any (s t : ByteArray) (w : World) (hs : s.size ≤ 100000) (ht : t = S (Lib.trimRightB (L s) 47)) :
    Calls Tryz.prog 86 #[.string s, .string ⟨#[47]⟩] w fun e w' => e = .returned (.string t) ∧ w' = w := by
  subst ht
  exact Tryz.strings_TrimRight_one s 47 (by decide) w (by omega)

theorem lastIndex_any (s : ByteArray) (v : Int) (w : World) (hs : s.size ≤ 100000) (hv : v = lastL (L s)) :
    Calls Tryz.prog 67 #[.string s, .int .u8 47] w fun e w' => e = .returned (.int .i64 v) ∧ w' = w := by
  subst hv
  rw [← lib_last_all]
  exact Tryz.strings_LastIndexByte s 47 (by omega) w

theorem bare_any (s : ByteArray) (w : World) (hs : s.size ≤ 100000) :
    Calls Tryz.prog 66 #[.string s] w fun e w' => e = .returned (.string (S (bareL (L s)))) ∧ w' = w := by
  obtain ⟨t, ht⟩ : ∃ t, t = S (Lib.trimRightB (L s) 47) := ⟨_, rfl⟩
  have hb := bare_trim (L s)
  have C := Lib.hid (fun w => trimRight_any s t w hs ht)
  by_cases h1 : Lib.trimRightB (L s) 47 = []
  · have e1 : t.toList.isEmpty = true := by rw [ht, toList_S, h1]; rfl
    by_cases h2 : L s = []
    · have e2 : s.toList.isEmpty = true := by rw [isEmpty_L, h2]; rfl
      rw [if_neg (by simp [h2])] at hb
      have hr : t = S (bareL (L s)) := by rw [ht, hb]
      rw [← hr]
      clear h1 h2 hb ht hr
      go_enter Tryz.func66, Tryz.ntmps66
      go_wp2_with fail
      refine (C.out _).mono ?_
      rintro e w1 ⟨rfl, rfl⟩
      go_wp2_with fail
      go_ret
      exact ⟨rfl, rfl⟩
    · have e2 : s.toList.isEmpty = false := by rw [isEmpty_L]; simpa using h2
      rw [if_pos ⟨h1, h2⟩] at hb
      rw [← hb]
      clear h1 h2 hb ht
      go_enter Tryz.func66, Tryz.ntmps66
      go_wp2_with fail
      refine (C.out _).mono ?_
      rintro e w1 ⟨rfl, rfl⟩
      go_wp2_with fail
      go_ret
      exact ⟨rfl, rfl⟩
  · have e1 : t.toList.isEmpty = false := by rw [ht, toList_S]; simpa using h1
    rw [if_neg (by simp [h1])] at hb
    have hr : t = S (bareL (L s)) := by rw [ht, hb]
    rw [← hr]
    clear h1 hb ht hr
    go_enter Tryz.func66, Tryz.ntmps66
    go_wp2_with fail
    refine (C.out _).mono ?_
    rintro e w1 ⟨rfl, rfl⟩
    go_wp2_with fail
    go_ret
    exact ⟨rfl, rfl⟩

theorem S_extract (s : ByteArray) (a b : Nat) : s.extract a b = S (((L s).drop a).take (b - a)) := by rw [← L_extract, S_L]
theorem S_extract_from (s : ByteArray) (a : Nat) : s.extract a s.size = S ((L s).drop a) := by
  rw [S_extract, List.take_of_length_le (by simp [L_size])]
theorem S_extract_to (s : ByteArray) (b : Nat) : s.extract 0 b = S ((L s).take b) := by rw [S_extract]; rfl

end Go.Proofs.YtmlgmedapbeleaaGreatDoor
/-
  The walks of Dir, of the document's bare, last, Base and Dir, of the anchor, and of the statement PathSplits.
-/
namespace Go.Proofs.YtmlgmedapbeleaaGreatDoor
open Go.RowKit

theorem dir_any (s : ByteArray) (w : World) (hs : s.size ≤ 100000) :
    Calls Tryz.prog 40 #[.string s] w fun e w' => e = .returned (.string (S (dirL (L s)))) ∧ w' = w := by
  obtain ⟨t, ht⟩ : ∃ t, t = S (bareL (L s)) := ⟨_, rfl⟩
  have hlt : L t = bareL (L s) := by rw [ht]; rfl
  have hts : t.size ≤ s.size := by rw [ht, S_size]; exact bareL_len _
  have hdir : dirL (L s) = if L t = [47] then [47] else if lastL (L t) < 0 then [46] else bareL ((L t).take (lastL (L t) + 1).toNat) := by rw [dirL, hlt]
  have C : Hid (∀ w, Calls Tryz.prog 66 #[.string s] w fun e w' => e = .returned (.string t) ∧ w' = w) := Lib.hid fun w => by rw [ht]; exact bare_any s w hs
  obtain ⟨v, hv⟩ : ∃ v, v = lastL (L t) := ⟨_, rfl⟩
  have hvb := lastTo_lt (L t) (L t).length
  rw [show lastTo (L t) (L t).length = v from hv.symm, L_size] at hvb
  have C2 := Lib.hid (fun w => lastIndex_any t v w (by omega) hv)
  rw [← hv] at hdir
  clear ht hlt hv
  by_cases h1 : L t = [47]
  · have e1 : (t.toList == [47]) = true := by rw [toList_L, h1]; rfl
    have hr : (⟨#[47]⟩ : ByteArray) = S (dirL (L s)) := by rw [hdir, if_pos h1]; rfl
    rw [← hr]
    clear h1 hdir hr
    go_enter Tryz.func40, Tryz.ntmps40
    go_wp2_with fail
    refine (C.out _).mono ?_
    rintro e w1 ⟨rfl, rfl⟩
    go_wp2_with fail
    refine (C2.out _).mono ?_
    rintro e w1 ⟨rfl, rfl⟩
    go_wp2_with fail
    go_ret
    exact ⟨rfl, rfl⟩
  · have e1 : (t.toList == [47]) = false := by rw [toList_L]; simpa using h1
    by_cases h2 : v < 0
    · have hr : (⟨#[46]⟩ : ByteArray) = S (dirL (L s)) := by rw [hdir, if_neg h1, if_pos h2]; rfl
      rw [← hr]
      clear h1 hdir hr
      go_enter Tryz.func40, Tryz.ntmps40
      go_wp2_with fail
      refine (C.out _).mono ?_
      rintro e w1 ⟨rfl, rfl⟩
      go_wp2_with fail
      refine (C2.out _).mono ?_
      rintro e w1 ⟨rfl, rfl⟩
      go_wp2_with fail
      go_ret
      exact ⟨rfl, rfl⟩
    · obtain ⟨n, hn⟩ : ∃ n : Nat, v + 1 = (n : Int) := ⟨(v + 1).toNat, by omega⟩
      have hnt : n ≤ t.size := by omega
      have hr : S (bareL (L (t.extract 0 n))) = S (dirL (L s)) := by rw [S_extract_to, hdir, if_neg h1, if_neg h2, hn]; rfl
      have C3 := Lib.hid (fun w => bare_any (t.extract 0 n) w (by rw [S_extract_to, S_size, List.length_take]; omega))
      rw [← hr]
      clear h1 hdir hr
      go_enter Tryz.func40, Tryz.ntmps40
      go_wp2_with fail
      refine (C.out _).mono ?_
      rintro e w1 ⟨rfl, rfl⟩
      go_wp2_with fail
      refine (C2.out _).mono ?_
      rintro e w1 ⟨rfl, rfl⟩
      go_wp2_with fail
      refine (C3.out _).mono ?_
      rintro e w1 ⟨rfl, rfl⟩
      go_wp2_with fail
      go_ret
      exact ⟨rfl, rfl⟩

/-! ### the document's -/
end Go.Proofs.YtmlgmedapbeleaaGreatDoor
/-
  The walks of Join, Under, Above, and of the document's Join and Above; whether two lists are the same.
-/
namespace Go.Proofs.YtmlgmedapbeleaaGreatDoor
open Go.RowKit

def joinL (a b : List UInt8) : List UInt8 := if a = [] then b else if a.getD (a.length - 1) 0 = 47 then a ++ b else a ++ [47] ++ b
def underB (s d : List UInt8) : Bool := decide (d.length < s.length) && (s.take d.length == d) && (s.getD d.length 0 == 47)
/-- What stands ahead of the slashes among the first n. -/
def aboveTo (s : ByteArray) : Nat → List ByteArray
  | 0 => []
  | n + 1 => if (L s).getD n 0 = 47 then aboveTo s n ++ [s.extract 0 n] else aboveTo s n
theorem aboveTo_yes {s : ByteArray} {n : Nat} (h : (L s).getD n 0 = 47) : aboveTo s (n + 1) = aboveTo s n ++ [s.extract 0 n] := by rw [aboveTo, if_pos h]
theorem aboveTo_no {s : ByteArray} {n : Nat} (h : (L s).getD n 0 ≠ 47) : aboveTo s (n + 1) = aboveTo s n := by rw [aboveTo, if_neg h]
theorem aboveTo_len (s : ByteArray) : ∀ n, (aboveTo s n).length ≤ n
  | 0 => Nat.le_refl _
  | n + 1 => by have := aboveTo_len s n; rw [aboveTo]; split <;> simp <;> omega

theorem suffix_last (l : List UInt8) (h : l ≠ []) : Lib.hasSuffix l [47] = decide (l.getD (l.length - 1) 0 = 47) := by
  rw [← Lib.hasSuffix_of_drop]
  have hpos := List.length_pos_iff.2 h
  have e : l.drop (l.length - 1) = [l.getD (l.length - 1) 0] := by
    rw [drop_getD l (by omega), List.drop_eq_nil_of_le (by omega)]
  rw [show ([47] : List UInt8).length = 1 from rfl, e]
  rw [Bool.eq_iff_iff]
  simp
  omega

theorem eq47 {c : UInt8} (h : c = 47) : (((c.toNat : Nat) : Int) == 47) = true := by rw [h]; rfl
theorem ne47 {c : UInt8} (h : c ≠ 47) : (((c.toNat : Nat) : Int) == 47) = false := by
  rw [beq_eq_false_iff_ne]
  intro e
  exact h (UInt8.toNat_inj.1 (by have : ((47 : UInt8).toNat : Int) = 47 := rfl; omega))

theorem prefix_take (l p : List UInt8) (h : p.length ≤ l.length) : Lib.hasPrefix l p = (l.take p.length == p) := by
  rw [← Lib.hasPrefix_of_take, decide_eq_true h, Bool.true_and]

end Go.Proofs.YtmlgmedapbeleaaGreatDoor
/-
  The walks of Join, Under, Above, and of the document's Join and Above; whether two lists are the same.
-/
namespace Go.Proofs.YtmlgmedapbeleaaGreatDoor
open Go.RowKit

theorem hasSuffix_any (s : ByteArray) (b : Bool) (w : World) (hs : s.size ≤ 100000) (hb : Lib.hasSuffix (L s) [47] = b) :
    Calls Tryz.prog 50 #[.string s, .string ⟨#[47]⟩] w fun e w' => e = .returned (.bool b) ∧ w' = w := by
  subst hb; exact Tryz.strings_HasSuffix s ⟨#[47]⟩ w (by omega)
theorem join_any (a b : ByteArray) (w : World) (ha : a.size ≤ 100000) (hb : b.size ≤ 100000) :
    Calls Tryz.prog 32 #[.string a, .string b] w fun e w' => e = .returned (.string (S (joinL (L a) (L b)))) ∧ w' = w := by
  by_cases h0 : L a = []
  · have e0 : a.toList.isEmpty = true := by rw [isEmpty_L, h0]; rfl
    have hr : b = S (joinL (L a) (L b)) := by rw [joinL, if_pos h0, S_L]
    rw [← hr]
    clear h0 hr
    go_enter Tryz.func32, Tryz.ntmps32
    go_wp2_with fail
    go_ret
    exact ⟨rfl, rfl⟩
  · have e0 : a.toList.isEmpty = false := by rw [isEmpty_L]; simpa using h0
    have hsf := suffix_last (L a) h0
    by_cases h1 : (L a).getD ((L a).length - 1) 0 = 47
    · rw [decide_eq_true h1] at hsf
      have C := Lib.hid (fun w => hasSuffix_any a true w ha hsf)
      have hr : a ++ b = S (joinL (L a) (L b)) := by rw [joinL, if_neg h0, if_pos h1, ← L_append, S_L]
      rw [← hr]
      clear h0 h1 hr hsf
      go_enter Tryz.func32, Tryz.ntmps32
      go_wp2_with fail
      refine (C.out _).mono ?_
      rintro e w1 ⟨rfl, rfl⟩
      go_wp2_with fail
      go_ret
      exact ⟨rfl, rfl⟩
    · rw [decide_eq_false h1] at hsf
      have C := Lib.hid (fun w => hasSuffix_any a false w ha hsf)
      have hr : a ++ ⟨#[47]⟩ ++ b = S (joinL (L a) (L b)) := by apply L_inj; rw [L_S, joinL, if_neg h0, if_neg h1, L_append, L_append]; rfl
      rw [← hr]
      clear h0 h1 hr hsf
      go_enter Tryz.func32, Tryz.ntmps32
      go_wp2_with fail
      refine (C.out _).mono ?_
      rintro e w1 ⟨rfl, rfl⟩
      go_wp2_with fail
      go_ret
      exact ⟨rfl, rfl⟩

end Go.Proofs.YtmlgmedapbeleaaGreatDoor
/-
  The walks of take and folder.
-/
namespace Go.Proofs.YtmlgmedapbeleaaGreatDoor
open Go.RowKit

section
variable {w w' : World} {B db mb : Nat} {ns : List Nd} {ps : List Pl} {used : Int} {n : Nd} {p : Pl}
theorem Dk.drewN (h : Dk w B db mb ns ps used) (q : Nat) : Dk (w.drewN q) B db mb ns ps used := h.below (below_drewN (Below.refl _ _) q)
theorem below_cell {w w1 : World} {B g i : Nat} (h : Below B w w1) (hg : B ≤ g) (x : Value) : Below B w (w1.setCell ⟨g, i, none⟩ x) := h.setCell hg x

theorem take_any (h : Dk w B db mb ns ps used) (m : Nat) (h0 : 0 ≤ used) (hm : used + m ≤ 1048576) :
    Calls Tryz.prog 26 #[.pointer (some ⟨db, 0, none⟩), .int .i64 (m : Int)] w fun e w' => e = .returned (.bool true) ∧ Dk w' B db mb ns ps (used + m) ∧ Stay mb w w' ∧ Below B w w' ∧ w'.heap.size = w.heap.size := by
  have b2 : w.cell? ⟨db, 2, none⟩ = some (.int .i64 used) := h.box.cell 2
  have b3 : w.cell? ⟨db, 3, none⟩ = some (.int .i64 1048576) := h.box.cell 3
  have z2 : w.frozen? ⟨db, 2, none⟩ = false := h.box.free 2
  have e1 : IntKind.i64.wrap (1048576 - used) = 1048576 - used := IntWalk.i64_in _ ⟨by omega, by omega⟩
  have e2 : IntKind.i64.wrap (used + (m : Int)) = used + (m : Int) := IntWalk.i64_in _ ⟨by omega, by omega⟩
  have e3 : decide (1048576 - used < (m : Int)) = false := decide_eq_false (by omega)
  have HH := Lib.hid h
  clear h hm h0
  go_enter Tryz.func26, Tryz.ntmps26
  go_wp2_with fail
  go_quiet (fail)
  go_wp2_with fail
  go_ret
  have hd := HH.out.drewN nq
  exact ⟨rfl, hd.use _, (Stay.below (below_drewN (Below.refl _ _) nq)).trans (Stay.set hd.box (.inl rfl) _), (below_drewN (Below.refl _ _) nq).setCell HH.out.lowd _, by simp⟩

/-- The directory of a number. -/
theorem folder_any (h : Dk w B db mb ns ps used) {i : Nat} (hn : ns[i]? = some n) (hp : ps[i]? = some p) (hk : n.k = 2) (hl : ns.length ≤ 100) :
    Calls Tryz.prog 27 #[.pointer (some ⟨db, 0, none⟩), .int .i64 ((i : Int) + 1)] w fun e w' => e = .returned (.tuple #[ptrV p, .int .i64 0]) ∧ Below w.heap.size w w' := by
  have b0 : w.cell? ⟨db, 0, none⟩ = some (.map (some mb)) := h.box.cell 0
  have hil := (List.getElem?_eq_some_iff.1 hn).1
  have hr : (Instr.lookup 42 (.map (some mb)) (.int .i64 ((i : Int) + 1)) false).run Tryz.prog w = .ok (ptrV p) w := by
    have := h.map.look (T := 42) (e := 45) Tryz.underlying42 (z := .pointer none) (by kernel_rfl) ((i : Int) + 1) (by simp [Lit.wf, IntKind.min, IntKind.max, IntKind.bits, IntKind.signed]; omega)
    rw [nodeM_at hp] at this
    exact this
  have c0 : w.cell? ⟨p.b, 0, none⟩ = some (.int .i64 2) := by rw [← hk]; exact (h.node i n p hn hp).box.cell 0
  clear h hl
  rw [ptrV] at hr ⊢
  go_enter Tryz.func27, Tryz.ntmps27
  go_wp2_with fail
  go_ret2
  exact ⟨rfl, Below.refl _ _⟩
end
end Go.Proofs.YtmlgmedapbeleaaGreatDoor
/-
  The walk of New.
-/
namespace Go.Proofs.YtmlgmedapbeleaaGreatDoor
open Go.RowKit

def root0 : Nd := ⟨2, 493, 1, 0, ⟨#[]⟩, [], 1⟩

theorem new_any (w : World) : Calls Tryz.prog 7 #[.int .i64 1048576] w fun e w' => ∃ db mb p, e = .returned (.tuple #[.pointer (some ⟨db, 0, none⟩), .int .i64 0]) ∧ Dk w' w.heap.size db mb [root0] [p] 0 ∧ Below w.heap.size w w' := by
  have wf1 : (Lit.int .i64 1).wf = true := by decide
  have hmm := @run_makeMap Tryz.prog
  go_enter Tryz.func7, Tryz.ntmps7
  go_wp2_with (at_mapUpdate; refine wpList_putI rfl _ _ _ _ rfl _ Tryz.underlying42 rfl (((MapI.made w).alloc _).alloc _) (by unfold maxLen; omega) 1 (.pointer (some ⟨w.heap.size + 2, 0, none⟩)) rfl (by simp [go_sem]) wf1 ?_; intro w4 hm4 hg4)
  go_ret2
  have hb : Below w.heap.size w w4 := ((((Below.refl w.heap.size w).alloc (Nat.le_refl _) _).alloc (by simp) _).alloc (by simp; omega) _).grown hg4 (by simp; omega) fun p hp => by cases hp; exact Nat.le_refl _
  have k1 : Blk w4 (w.heap.size + 1) 44 #[.map (some w.heap.size), .int .i64 2, .int .i64 0, .int .i64 1048576] :=
    Blk.grown (Blk.alloc (by have := Blk.new (w.alloc (.map #[] 0)) 44 #[.map (some w.heap.size), .int .i64 2, .int .i64 0, .int .i64 1048576]; simpa using this) _) hg4 (by simp)
  have k2 : Blk w4 (w.heap.size + 2) 51 (ndC root0 ⟨w.heap.size + 2, .slice none 0 0, .slice none 0 0⟩) :=
    Blk.grown (by have := Blk.new ((w.alloc (.map #[] 0)).alloc (.cells #[.map (some w.heap.size), .int .i64 2, .int .i64 0, .int .i64 1048576] 44)) 51 (ndC root0 ⟨w.heap.size + 2, .slice none 0 0, .slice none 0 0⟩); simpa [ndC, root0] using this) hg4 (by simp)
  refine ⟨w.heap.size + 1, w.heap.size, ⟨w.heap.size + 2, .slice none 0 0, .slice none 0 0⟩, rfl, ⟨k1, ?_, rfl, ?_, ?_, by omega, by omega⟩, hb⟩
  · have e : nodeM [⟨w.heap.size + 2, .slice none 0 0, .slice none 0 0⟩] = fun t => if t = 1 then some (ptrV ⟨w.heap.size + 2, .slice none 0 0, .slice none 0 0⟩) else none := by
      have := nodeM_push (ps := []) ⟨w.heap.size + 2, .slice none 0 0, .slice none 0 0⟩
      rw [List.nil_append] at this
      rw [← this]
      funext t
      by_cases h : t = 1
      · subst h; rfl
      · rw [if_neg (by simpa using h), if_neg h, nodeM]
        split <;> rfl
    rw [e]
    exact hm4
  · intro i n p hn hp
    cases i with
    | zero =>
      cases hn
      cases hp
      exact ⟨k2, by simp, .inl ⟨rfl, rfl⟩, World.ownsRow_nil _ _ _ _⟩
    | succ i => cases hn
  · intro i j p q hp hq hne
    cases i with
    | zero =>
      cases j with
      | zero => exact absurd rfl hne
      | succ j => cases hq
    | succ i => cases hp
end Go.Proofs.YtmlgmedapbeleaaGreatDoor
/-
  The walks of the document's has, Right, Name, Pieces and Plain.
-/
namespace Go.Proofs.YtmlgmedapbeleaaGreatDoor
open Go.RowKit

/-- Whether a text is a path. -/
def rightB (l : List UInt8) : Bool := !l.isEmpty && decide (l.length ≤ 4095) && !l.contains 0
/-- Whether a byte occurs; a plain name, so that the walk does not rewrite it. -/
def hasB (l : List UInt8) (c : UInt8) : Bool := l.contains c
theorem hasB_nil (c : UInt8) : hasB [] c = false := rfl
theorem hasB_same (c : UInt8) (l : List UInt8) : hasB (c :: l) c = true := by simp [hasB]
theorem hasB_cons {c d : UInt8} (l : List UInt8) (h : d ≠ c) : hasB (d :: l) c = hasB l c := by
  simp [hasB, Ne.symm h]

set_option maxHeartbeats 400000 in
theorem has_any (s : ByteArray) (c : UInt8) (w : World) (hs : s.size ≤ maxLen) :
    Calls Tryz.prog 70 #[.string s, .int .u8 (c.toNat : Nat)] w fun e w' => e = .returned (.bool (hasB (L s) c)) ∧ w = w' := by
  unfold maxLen at hs
  go_enter Tryz.func70, Tryz.ntmps70
  go_wp2
  go_loop [5] (fun i => ∃ k : Nat, k ≤ s.size ∧ i = .int .i64 k ∧ hasB (L s) c = hasB ((L s).drop k) c) (fun i => s.size - (intOf i).toNat)
  case atStart => exact ⟨0, by omega, rfl, rfl⟩
  case round =>
    obtain ⟨k, hk, rfl, hr⟩ := hrel
    have HR := Lib.hid hr
    clear hr
    by_cases hlt : k < s.size
    · have i0 := run_idx (P := Tryz.prog) (k := .i64) Tryz.underlying9 s (k : Int) k rfl hlt
      obtain ⟨d, hd⟩ : ∃ d, d = (L s).getD k 0 := ⟨_, rfl⟩
      have hdr := drop_getD (L s) hlt
      rw [← hd] at i0 hdr
      have HDR := Lib.hid hdr
      clear hd hdr
      by_cases he : d = c
      · have ht : (((d.toNat : Nat) : Int) == ((c.toNat : Nat) : Int)) = true := by rw [he]; simp
        have HE := Lib.hid he
        clear he
        go_wp2
        go_ret
        exact ⟨ret_bool (by rw [HR.out, HDR.out, HE.out, hasB_same]), rfl⟩
      · have ht : (((d.toNat : Nat) : Int) == ((c.toNat : Nat) : Int)) = false := by
          rw [beq_eq_false_iff_ne]; intro h; exact he (UInt8.toNat_inj.1 (by omega))
        have HE := Lib.hid he
        clear he
        go_wp2
        go_round
        case rel => exact ⟨k + 1, by omega, by go_num, by
          rw [HR.out, HDR.out, hasB_cons _ HE.out]⟩
        case measure => simp [intOf]; omega
    · go_wp2
      go_ret
      have : k = s.size := by omega
      exact ⟨ret_bool (by rw [HR.out, this, List.drop_of_length_le (by rw [L_size]; exact Nat.le_refl _), hasB_nil]), rfl⟩

set_option maxHeartbeats 400000 in
theorem refRight_any (s : ByteArray) (w : World) (hs : s.size ≤ maxLen) :
    Calls Tryz.prog 42 #[.string s] w fun e w' => e = .returned (.bool (rightB (L s))) ∧ w = w' := by
  have HS := Lib.hid hs
  unfold maxLen at hs
  have hl : (L s).length = s.size := rfl
  by_cases h1 : 1 ≤ s.size
  · have he : (L s).isEmpty = false := by cases h : L s with
      | nil => rw [h] at hl; simp at hl; omega
      | cons a b => rfl
    by_cases h2 : s.size ≤ 4095
    · have hr : rightB (L s) = !(hasB (L s) 0) := by rw [rightB, he, hasB]; simp [hl, h2]
      have HR := Lib.hid hr
      clear hr he hl
      go_enter Tryz.func42, Tryz.ntmps42
      go_wp2_with fail
      refine (has_any s 0 _ HS.out).mono ?_
      rintro e w' ⟨rfl, rfl⟩
      go_wp2_with fail
      go_ret
      exact ⟨ret_bool (by rw [HR.out]), rfl⟩
    · have hr : rightB (L s) = false := by rw [rightB, he]; simp [hl]; intro h; omega
      have HR := Lib.hid hr
      clear hr he hl
      go_enter Tryz.func42, Tryz.ntmps42
      go_wp2_with fail
      go_ret
      exact ⟨ret_bool (by rw [HR.out]), rfl⟩
  · have hr : rightB (L s) = false := by
      have : L s = [] := List.length_eq_zero_iff.1 (by omega)
      rw [this]; rfl
    have HR := Lib.hid hr
    clear hr hl
    go_enter Tryz.func42, Tryz.ntmps42
    go_wp2_with fail
    go_ret
    exact ⟨ret_bool (by rw [HR.out]), rfl⟩


/-- Whether a text is a name. -/
def nameB (l : List UInt8) : Bool := decide (1 ≤ l.length) && decide (l.length ≤ 255) && !hasB l 47 && !hasB l 0 && !(l == [46]) && !(l == [46, 46])

theorem refName_any (s : ByteArray) (w : World) (hs : s.size ≤ 100000) :
    Calls Tryz.prog 69 #[.string s] w fun e w' => e = .returned (.bool (nameB (L s))) ∧ w = w' := by
  obtain ⟨r, hr⟩ : ∃ r, r = nameB (L s) := ⟨_, rfl⟩
  rw [← hr]
  by_cases hsz : 1 ≤ s.size ∧ s.size ≤ 255
  · have C1 := Lib.hid (fun w => has_any s 47 w (by unfold maxLen; omega))
    have C2 := Lib.hid (fun w => has_any s 0 w (by unfold maxLen; omega))
    have hr' : r = (!hasB (L s) 47 && !hasB (L s) 0 && !(s.toList == [46]) && !(s.toList == [46, 46])) := by
      rw [hr, nameB, L_size, decide_eq_true hsz.1, decide_eq_true hsz.2, toList_L]; simp
    obtain ⟨b1, hb1⟩ : ∃ b, b = hasB (L s) 47 := ⟨_, rfl⟩
    obtain ⟨b2, hb2⟩ : ∃ b, b = hasB (L s) 0 := ⟨_, rfl⟩
    rw [← hb1] at C1 hr'
    rw [← hb2] at C2 hr'
    obtain ⟨z1, z2⟩ := hsz
    clear hr hb1 hb2
    cases b1
    · cases b2
      · cases d1 : s.toList == [46]
        · cases d2 : s.toList == [46, 46]
          · skip
            have hr2 : r = true := by rw [hr', d1, d2]; rfl
            subst hr2
            clear hr'
            go_enter Tryz.func69, Tryz.ntmps69
            go_wp2_with fail
            refine (C1.out _).mono ?_
            rintro e w1 ⟨rfl, rfl⟩
            go_wp2_with fail
            refine (C2.out _).mono ?_
            rintro e w1 ⟨rfl, rfl⟩
            go_wp2_with fail
            go_ret
            exact ⟨rfl, rfl⟩
          · have hr2 : r = false := by rw [hr', d1, d2]; rfl
            subst hr2
            clear hr'
            go_enter Tryz.func69, Tryz.ntmps69
            go_wp2_with fail
            refine (C1.out _).mono ?_
            rintro e w1 ⟨rfl, rfl⟩
            go_wp2_with fail
            refine (C2.out _).mono ?_
            rintro e w1 ⟨rfl, rfl⟩
            go_wp2_with fail
            go_ret
            exact ⟨rfl, rfl⟩
        · have hr2 : r = false := by rw [hr', d1]; rfl
          subst hr2
          clear hr'
          go_enter Tryz.func69, Tryz.ntmps69
          go_wp2_with fail
          refine (C1.out _).mono ?_
          rintro e w1 ⟨rfl, rfl⟩
          go_wp2_with fail
          refine (C2.out _).mono ?_
          rintro e w1 ⟨rfl, rfl⟩
          go_wp2_with fail
          go_ret
          exact ⟨rfl, rfl⟩
      · have hr2 : r = false := by rw [hr']; rfl
        subst hr2
        clear hr'
        go_enter Tryz.func69, Tryz.ntmps69
        go_wp2_with fail
        refine (C1.out _).mono ?_
        rintro e w1 ⟨rfl, rfl⟩
        go_wp2_with fail
        refine (C2.out _).mono ?_
        rintro e w1 ⟨rfl, rfl⟩
        go_wp2_with fail
        go_ret
        exact ⟨rfl, rfl⟩
    · have hr2 : r = false := by rw [hr']; rfl
      subst hr2
      clear hr'
      go_enter Tryz.func69, Tryz.ntmps69
      go_wp2_with fail
      refine (C1.out _).mono ?_
      rintro e w1 ⟨rfl, rfl⟩
      go_wp2_with fail
      go_ret
      exact ⟨rfl, rfl⟩
  · have hr2 : r = false := by
      rw [hr, nameB, L_size]
      by_cases h1 : 1 ≤ s.size
      · rw [decide_eq_false (show ¬ s.size ≤ 255 by omega)]; simp
      · rw [decide_eq_false h1]; rfl
    subst hr2
    clear hr
    by_cases h1 : 1 ≤ s.size
    · have h2 : 255 < s.size := by omega
      clear hsz
      go_enter Tryz.func69, Tryz.ntmps69
      go_wp2_with fail
      go_ret
      exact ⟨rfl, rfl⟩
    · clear hsz
      go_enter Tryz.func69, Tryz.ntmps69
      go_wp2_with fail
      go_ret
      exact ⟨rfl, rfl⟩

/-- The pieces among the first n bytes, and where the next one begins. -/
def piecesTo (s : ByteArray) : Nat → List ByteArray × Nat
  | 0 => ([], 0)
  | n + 1 => if (L s).getD n 0 = 47 then ((piecesTo s n).1 ++ [s.extract (piecesTo s n).2 n], n + 1) else piecesTo s n
def piecesS (s : ByteArray) : List ByteArray := (piecesTo s s.size).1 ++ [s.extract (piecesTo s s.size).2 s.size]
theorem piecesTo_yes {s : ByteArray} {n : Nat} (h : (L s).getD n 0 = 47) : piecesTo s (n + 1) = ((piecesTo s n).1 ++ [s.extract (piecesTo s n).2 n], n + 1) := by rw [piecesTo, if_pos h]
theorem piecesTo_no {s : ByteArray} {n : Nat} (h : (L s).getD n 0 ≠ 47) : piecesTo s (n + 1) = piecesTo s n := by rw [piecesTo, if_neg h]
theorem piecesTo_spec (s : ByteArray) : ∀ n, (piecesTo s n).2 ≤ n ∧ (piecesTo s n).1.length ≤ n ∧ ((0 < n ∧ (L s).getD (n - 1) 0 = 47) → (piecesTo s n).2 = n)
  | 0 => ⟨Nat.le_refl _, Nat.le_refl _, fun h => by omega⟩
  | n + 1 => by
    obtain ⟨h1, h2, h3⟩ := piecesTo_spec s n
    by_cases h : (L s).getD n 0 = 47
    · rw [piecesTo_yes h]
      exact ⟨Nat.le_refl _, by simp; omega, fun _ => rfl⟩
    · rw [piecesTo_no h]
      exact ⟨by omega, by omega, fun h' => absurd h'.2 h⟩
theorem extract_len (s : ByteArray) (a b : Nat) : (s.extract a b).size ≤ s.size := by rw [S_extract, S_size, List.length_take, List.length_drop, L_size]; omega
theorem piecesTo_size (s : ByteArray) : ∀ n, ∀ x ∈ (piecesTo s n).1, x.size ≤ s.size
  | 0, x, h => by simp [piecesTo] at h
  | n + 1, x, h => by
    by_cases hc : (L s).getD n 0 = 47
    · rw [piecesTo_yes hc] at h
      rcases List.mem_append.1 h with h | h
      · exact piecesTo_size s n x h
      · rw [List.mem_singleton.1 h]; exact extract_len s _ _
    · rw [piecesTo_no hc] at h; exact piecesTo_size s n x h
theorem piecesS_size (s : ByteArray) (x : ByteArray) (h : x ∈ piecesS s) : x.size ≤ s.size := by
  rcases List.mem_append.1 h with h | h
  · exact piecesTo_size s _ x h
  · rw [List.mem_singleton.1 h]; exact extract_len s _ _

set_option maxHeartbeats 800000 in
theorem refPieces_any (s : ByteArray) (w : World) (hs : s.size ≤ 100000) :
    Calls Tryz.prog 68 #[.string s] w fun e w' => ∃ v, e = .returned v ∧ OwnS w' w.heap.size v (piecesS s) ∧ Below w.heap.size w w' := by
  go_enter Tryz.func68, Tryz.ntmps68
  go_wp2_with fail
  go_loopw [3, 4, 5] (fun v f i wr => ∃ (k m : Nat), k ≤ s.size ∧ i = .int .i64 k ∧ f = .int .i64 m ∧ m = (piecesTo s k).2 ∧ OwnS wr w.heap.size v (piecesTo s k).1 ∧ Below w.heap.size w wr) (fun _ _ i _ => s.size - (intOf i).toNat)
  case atStart => exact ⟨0, 0, Nat.zero_le _, rfl, rfl, rfl, OwnS.nil _ _, Below.refl _ _⟩
  case round =>
    obtain ⟨k, m, hk, rfl, rfl, hm, hown, hbw⟩ := hrel
    have hbs := hbw.size
    obtain ⟨hm1, hlen, _⟩ := piecesTo_spec s k
    rw [← hm] at hm1
    by_cases hlt : k < s.size
    · have i0 := run_idx (P := Tryz.prog) (k := .i64) Tryz.underlying9 s (k : Int) k rfl hlt
      obtain ⟨c, hc⟩ : ∃ c, c = (L s).getD k 0 := ⟨_, rfl⟩
      rw [← hc] at i0
      by_cases h47 : c = 47
      · have et := eq47 h47
        have hl := piecesTo_yes (hc ▸ h47)
        rw [← hm] at hl
        have HL := Lib.hid hl
        have HM := Lib.hid hm
        clear hc h47 hl hm
        go_wp2_with (at_builtin; go_must (refine append_string rfl _ _ rfl rfl (OwnS.alloc hown _) (s.extract m k) rfl (cell_newS _ _ _) (by omega) (Below.alloc hbw hbs _) (by simp; omega) ?_); intro v' w' hown' hbw' hbs')
        go_roundw
        case rel => exact ⟨k + 1, k + 1, by omega, by go_num, by go_num, by rw [HL.out], by rw [HL.out]; exact hown', hbw'⟩
        case measure => simp [intOf]; omega
      · have et := ne47 h47
        have hl := piecesTo_no (hc ▸ h47)
        have HL := Lib.hid hl
        have HM := Lib.hid hm
        clear hc h47 hl hm
        go_wp2_with fail
        go_roundw
        case rel => exact ⟨k + 1, m, by omega, by go_num, rfl, by rw [HL.out]; exact HM.out, by rw [HL.out]; exact hown, hbw⟩
        case measure => simp [intOf]; omega
    · obtain rfl : k = s.size := by omega
      have hp : piecesS s = (piecesTo s s.size).1 ++ [s.extract m s.size] := by rw [piecesS, ← hm]
      have HP := Lib.hid hp
      have HM := Lib.hid hm
      clear hp hm
      go_wp2_with (at_builtin; go_must (refine append_string rfl _ _ rfl rfl (OwnS.alloc hown _) (s.extract m s.size) rfl (cell_newS _ _ _) (by omega) (Below.alloc hbw hbs _) (by simp; omega) ?_); intro v' w' hown' hbw' hbs')
      go_ret
      exact ⟨_, rfl, by rw [HP.out]; exact hown', hbw'⟩

/-- Whether a path is plain. -/
def plainB (s : ByteArray) : Bool := (piecesS s).all (fun x => nameB (L x)) && rightB (L s)
def namesTo (xs : List ByteArray) (k : Nat) : Prop := ∀ i x, i < k → xs[i]? = some x → nameB (L x) = true

set_option maxHeartbeats 800000 in
theorem refPlain_any (s : ByteArray) (w : World) (hs : s.size ≤ 100000) :
    Calls Tryz.prog 41 #[.string s] w fun e w' => e = .returned (.bool (plainB s)) ∧ Below w.heap.size w w' := by
  obtain ⟨xs, hxs⟩ : ∃ xs, xs = piecesS s := ⟨_, rfl⟩
  have hlen : xs.length ≤ 100001 := by
    rw [hxs, piecesS, List.length_append]
    have := (piecesTo_spec s s.size).2.1
    simp; omega
  have hsz : ∀ x ∈ xs, x.size ≤ 100000 := fun x hx => Nat.le_trans (piecesS_size s x (hxs ▸ hx)) hs
  have hp : plainB s = (xs.all (fun x => nameB (L x)) && rightB (L s)) := by rw [plainB, hxs]
  have HS := Lib.hid hs
  have HP := Lib.hid hp
  have HSZ := Lib.hid hsz
  have C1 : Hid (∀ w, Calls Tryz.prog 68 #[.string s] w fun e w' => ∃ v, e = .returned v ∧ OwnS w' w.heap.size v xs ∧ Below w.heap.size w w') := Lib.hid fun w => by rw [hxs]; exact refPieces_any s w hs
  clear hp hsz hxs
  go_enter Tryz.func41, Tryz.ntmps41
  go_wp2_with fail
  refine (C1.out _).mono ?_
  rintro e w1 ⟨v, rfl, hown, hb1⟩
  obtain ⟨a, cap, rfl, hE⟩ := hown.elems (by unfold maxLen; omega)
  clear hown
  obtain ⟨b1, o1, r1, _, c1⟩ := hE.open 118 9 Tryz.underlying118 (by kernel_rfl)
  have R1 := Lib.hid r1
  have CC1 := Lib.hid c1
  clear hE r1 c1
  go_wp2_with fail
  go_loopw [4] (fun i wr => ∃ (k : Nat), k ≤ xs.length ∧ i = .int .i64 k ∧ wr = w1 ∧ namesTo xs k) (fun i _ => xs.length - (intOf i).toNat)
  case atStart => exact ⟨0, Nat.zero_le _, rfl, rfl, fun i x h => by omega⟩
  case round =>
    obtain ⟨k, hk, rfl, rfl, hnames⟩ := hrel
    have HN := Lib.hid hnames
    clear hnames
    by_cases hlt : k < xs.length
    · have j1 := fun w' => R1.out k cap w' hlt
      obtain ⟨x, hx⟩ : ∃ x, xs[k]? = some x := ⟨_, List.getElem?_eq_getElem hlt⟩
      have d1 : wr.cell? ⟨b1, o1 + k, none⟩ = some (.string x) := by rw [CC1.out k hlt, List.getElem?_map, hx]; rfl
      have hxm : x ∈ xs := List.mem_of_getElem? hx
      have C2 := Lib.hid (fun w => refName_any x w (HSZ.out x hxm))
      cases hnb : nameB (L x) with
      | true =>
        rw [hnb] at C2
        have hn2 : namesTo xs (k + 1) := fun i y hi hy => by
          by_cases hik : i < k
          · exact HN.out i y hik hy
          · obtain rfl : i = k := by omega
            rw [hx] at hy; cases hy; exact hnb
        have HN2 := Lib.hid hn2
        clear hn2 hx hxm hnb
        go_wp2_with fail
        refine (C2.out _).mono ?_
        rintro e w2 ⟨rfl, rfl⟩
        go_wp2_with fail
        go_roundw
        case rel => exact ⟨k + 1, by omega, by go_num, by first | trivial | rfl, HN2.out⟩
        case measure => simp [intOf]; omega
      | false =>
        rw [hnb] at C2
        have hp2 : plainB s = false := by
          rw [HP.out, show (xs.all fun x => nameB (L x)) = false from List.all_eq_false.2 ⟨x, hxm, by rw [hnb]; decide⟩]; rfl
        have HP2 := Lib.hid hp2
        clear hp2 hx hxm hnb
        go_wp2_with fail
        refine (C2.out _).mono ?_
        rintro e w2 ⟨rfl, rfl⟩
        go_wp2_with fail
        go_ret
        exact ⟨ret_bool HP2.out.symm, hb1⟩
    · obtain rfl : k = xs.length := by omega
      have hp2 : plainB s = rightB (L s) := by
        rw [HP.out, show (xs.all fun x => nameB (L x)) = true from List.all_eq_true.2 fun x hx => by
          obtain ⟨i, hi, e⟩ := List.getElem_of_mem hx
          exact HN.out i x hi (by rw [List.getElem?_eq_getElem hi, e])]; rfl
      have HP2 := Lib.hid hp2
      clear hp2
      go_wp2_with fail
      refine (refRight_any s _ (by unfold maxLen; have := HS.out; omega)).mono ?_
      rintro e w2 ⟨rfl, rfl⟩
      go_wp2_with fail
      go_ret
      exact ⟨ret_bool HP2.out.symm, hb1⟩
end Go.Proofs.YtmlgmedapbeleaaGreatDoor
/-
  The plain law of PathJoins, and its walk.
-/
namespace Go.Proofs.YtmlgmedapbeleaaGreatDoor
open Go.RowKit

theorem nameB_facts {l : List UInt8} (h : nameB l = true) : l ≠ [] ∧ (47 : UInt8) ∉ l := by
  simp only [nameB, Bool.and_eq_true, decide_eq_true_eq, Bool.not_eq_true', hasB] at h
  obtain ⟨⟨⟨⟨⟨h1, _⟩, h2⟩, _⟩, _⟩, _⟩ := h
  refine ⟨fun e => by rw [e] at h1; simp at h1, fun hm => ?_⟩
  rw [List.contains_eq_mem] at h2
  simp [hm] at h2

theorem plainB_facts {s : ByteArray} (h : plainB s = true) : L s ≠ [] ∧ (L s).getD (s.size - 1) 0 ≠ 47 := by
  simp only [plainB, Bool.and_eq_true] at h
  obtain ⟨h1, h2⟩ := h
  have hne : L s ≠ [] := by
    intro e
    rw [e] at h2
    simp [rightB] at h2
  refine ⟨hne, fun h47 => ?_⟩
  have hpos : 0 < s.size := List.length_pos_iff.2 hne
  have hf := (piecesTo_spec s s.size).2.2 ⟨hpos, h47⟩
  have hm : s.extract (piecesTo s s.size).2 s.size ∈ piecesS s := by rw [piecesS]; simp
  have hn := List.all_eq_true.1 h1 _ hm
  have h0 := (nameB_facts hn).1
  rw [hf] at h0
  apply h0
  rw [L_extract, Nat.sub_self, List.take_zero]

theorem getD_app_left {a b : List UInt8} {i : Nat} (h : i < a.length) : (a ++ b).getD i 0 = a.getD i 0 := by
  simp only [List.getD]; rw [List.getElem?_append_left h]
theorem getD_app_right {a b : List UInt8} {i : Nat} (h : a.length ≤ i) : (a ++ b).getD i 0 = b.getD (i - a.length) 0 := by
  simp only [List.getD]; rw [List.getElem?_append_right h]
theorem getD_mem {l : List UInt8} {i : Nat} (h : i < l.length) : l.getD i 0 ∈ l := by
  simp only [List.getD]; rw [List.getElem?_eq_getElem h]; exact List.getElem_mem h

theorem bareL_id {l : List UInt8} (h : l.getD (l.length - 1) 0 ≠ 47) : bareL l = l := by
  rw [bareL]
  cases hn : l.length with
  | zero => rw [List.length_eq_zero_iff.1 hn]; rfl
  | succ n =>
    rw [cutTo_stop l n (fun h' => h (by rw [hn]; exact h'.2)), ← hn, List.take_length]

theorem lastTo_app (a b : List UInt8) (hb : (47 : UInt8) ∉ b) : ∀ n, n ≤ b.length → lastTo (a ++ [47] ++ b) (a.length + 1 + n) = a.length
  | 0, _ => by
    have e : (a ++ [47] ++ b).getD a.length 0 = 47 := by
      rw [List.append_assoc, getD_app_right (Nat.le_refl _), Nat.sub_self]; rfl
    rw [Nat.add_zero, lastTo_yes e]
  | n + 1, h => by
    have e : (a ++ [47] ++ b).getD (a.length + 1 + n) 0 ≠ 47 := by
      rw [getD_app_right (by simp)]
      intro h47
      have : (a.length + 1 + n - (a ++ [47]).length) = n := by simp
      rw [this] at h47
      exact hb (h47 ▸ getD_mem (by omega))
    rw [show a.length + 1 + (n + 1) = (a.length + 1 + n) + 1 by omega, lastTo_no e]
    exact lastTo_app a b hb n (by omega)

/-- What a plain path and a name make. -/
theorem joins_law {a b : List UInt8} (ha : a ≠ []) (ha2 : a.getD (a.length - 1) 0 ≠ 47) (hb : b ≠ []) (hb2 : (47 : UInt8) ∉ b) :
    joinL a b = a ++ [47] ++ b ∧ underB (joinL a b) a = true ∧ baseL (joinL a b) = b ∧ dirL (joinL a b) = a := by
  have hap := List.length_pos_iff.2 ha
  have hbp := List.length_pos_iff.2 hb
  have hj : joinL a b = a ++ [47] ++ b := by rw [joinL, if_neg ha, if_neg ha2]
  have hlen : (a ++ [47] ++ b).length = a.length + 1 + b.length := by simp; omega
  have hlast : lastL (a ++ [47] ++ b) = a.length := by
    rw [lastL, hlen]; exact lastTo_app a b hb2 b.length (Nat.le_refl _)
  have hbare : bareL (a ++ [47] ++ b) = a ++ [47] ++ b := bareL_id (by
    rw [hlen, getD_app_right (by simp; omega)]
    intro h
    exact hb2 (h ▸ getD_mem (by simp; omega)))
  have hne : a ++ [47] ++ b ≠ [47] := fun h => by
    have := congrArg List.length h
    rw [hlen] at this
    simp at this; omega
  have hn1 : ((a.length : Int) + 1).toNat = (a ++ [47]).length := by simp
  refine ⟨hj, ?_, ?_, ?_⟩
  · rw [hj, underB, hlen, decide_eq_true (by omega), List.append_assoc, List.take_left, getD_app_right (Nat.le_refl _), Nat.sub_self]
    simp
  · rw [hj, baseL, hbare, if_neg hne, hlast, hn1, List.drop_left]
  · rw [hj, dirL, hbare, if_neg hne, hlast, if_neg (by omega), hn1, List.take_left, bareL]
    have e : (a ++ [47]).length = a.length + 1 := by simp
    rw [e, cutTo_step (a ++ [47]) a.length ⟨hap, by rw [getD_app_right (Nat.le_refl _), Nat.sub_self]; rfl⟩]
    obtain ⟨m, hm⟩ : ∃ m, a.length = m + 1 := ⟨a.length - 1, by omega⟩
    rw [hm, cutTo_stop (a ++ [47]) m (fun h => ha2 (by
      have := h.2
      rw [getD_app_left (by omega)] at this
      rw [hm]; exact this)), ← hm, List.take_left]

end Go.Proofs.YtmlgmedapbeleaaGreatDoor
/-
  The one variable of the library that strings.Index, Split and Replace read.
-/
namespace Go.Proofs.YtmlgmedapbeleaaGreatDoor
open Go.RowKit

/-- internal/bytealg.MaxLen holds some number. -/
def Held (w : World) : Prop := (∃ c, w.cell? ⟨0, 0, none⟩ = some (.int .i64 c)) ∧ 0 < w.heap.size
theorem Held.below {w w' : World} (h : Held w) {B : Nat} (hB : 0 < B) (hb : Below B w w') : Held w' := by
  obtain ⟨⟨c, hc⟩, h2⟩ := h
  exact ⟨⟨c, by rw [hb.cell hB]; exact hc⟩, Nat.lt_of_lt_of_le h2 hb.size⟩
end Go.Proofs.YtmlgmedapbeleaaGreatDoor
/-
  strings.Split at a separator of one byte: its pieces, plain and as a contract.
-/
namespace Go.Proofs.YtmlgmedapbeleaaGreatDoor
open Go.RowKit

/-- The pieces of a list, cut at a byte. -/
def sp (c : UInt8) : List UInt8 → List (List UInt8)
  | [] => [[]]
  | d :: l => if d = c then [] :: sp c l else match sp c l with
    | [] => [[d]]
    | p :: ps => (d :: p) :: ps

theorem sp_no {c : UInt8} : ∀ {l : List UInt8}, c ∉ l → sp c l = [l]
  | [], _ => rfl
  | d :: l, h => by
    have h1 : d ≠ c := fun e => h (by simp [e])
    rw [sp, if_neg h1, sp_no (fun h' => h (by simp [h']))]
theorem sp_app {c : UInt8} : ∀ {a : List UInt8} (b : List UInt8), c ∉ a → sp c (a ++ c :: b) = a :: sp c b
  | [], b, _ => by rw [List.nil_append, sp, if_pos rfl]
  | d :: a, b, h => by
    have h1 : d ≠ c := fun e => h (by simp [e])
    rw [List.cons_append, sp, if_neg h1, sp_app b (fun h' => h (by simp [h']))]
theorem sp_ne (c : UInt8) : ∀ l, sp c l ≠ []
  | [] => by simp [sp]
  | d :: l => by
    rw [sp]
    split
    · simp
    · split <;> simp

theorem split_sp (c : UInt8) : ∀ (n : Nat) (l : List UInt8), l.length ≤ n → Lib.splitK [c] 0 (Lib.count l [c]) l = sp c l
  | n, l, hn => by
    by_cases h : Lib.indexByte l c < 0
    · have h1 : Lib.indexByte l c = -1 := by have := Lib.indexByte_ge l c; omega
      have hno : c ∉ l := fun hm => by
        obtain ⟨k, hk, e⟩ := List.getElem_of_mem hm
        exact Lib.indexByte_none h1 k (by rw [List.getElem?_eq_getElem hk, e])
      rw [Lib.count_miss (by rw [Lib.index_one]; exact h1), sp_no hno]; rfl
    · obtain ⟨o, ho⟩ := Int.eq_ofNat_of_zero_le (Int.not_lt.1 h)
      obtain ⟨h1, h2⟩ := Lib.indexByte_some ho
      have hidx : Lib.index l [c] = o := by rw [Lib.index_one]; exact ho
      have hol : o < l.length := (List.getElem?_eq_some_iff.1 h1).1
      have el : l = l.take o ++ c :: l.drop (o + 1) := by
        have := (List.getElem?_eq_some_iff.1 h1).2
        rw [← this, ← List.drop_eq_getElem_cons hol, List.take_append_drop]
      have hno : c ∉ l.take o := fun hm => by
        obtain ⟨k, hk, e⟩ := List.getElem_of_mem hm
        have hko : k < o := by rw [List.length_take] at hk; omega
        refine h2 k hko ?_
        rw [List.getElem_take] at e
        rw [List.getElem?_eq_getElem (by omega), e]
      match n, hn with
      | 0, hn => omega
      | n + 1, hn =>
        have ih := split_sp c n (l.drop (o + 1)) (by rw [List.length_drop]; omega)
        rw [Lib.count_hit (by simp) hidx, Nat.add_comm 1, Lib.splitK, if_neg (by rw [hidx]; simp), hidx]
        conv => rhs; rw [el]
        rw [sp_app _ hno]
        have e2 : ((o : Int).toNat + [c].length) = o + 1 := by simp
        rw [e2]
        simp only [Int.toNat_natCast, Nat.add_zero]
        rw [show o + [c].length = o + 1 from rfl, ih]

theorem split_any (s : ByteArray) (c : UInt8) (w : World) (hs : s.size ≤ 100000) (hv : Held w) :
    Calls Tryz.prog 85 #[.string s, .string ⟨#[c]⟩] w fun e w' => ∃ a cap xs, e = .returned (.slice a (xs : List ByteArray).length cap) ∧ xs = (sp c (L s)).map S ∧ Elems w' w'.heap.size a xs.length (xs.map Value.string) ∧ xs.length ≤ s.size + 1 ∧ Below w.heap.size w w' := by
  obtain ⟨m, hm⟩ := hv.1
  have hl := Lib.splitB_all ⟨#[c]⟩ (Nat.le_refl _) 0 _ s rfl
  have hle := Lib.countB_le ⟨#[c]⟩ (Nat.le_refl _) s.size s (Nat.le_refl _)
  refine (Tryz.strings_Split s ⟨#[c]⟩ m w (by omega) hm (Nat.le_refl _)).mono fun e w' ⟨he, hw⟩ => ?_
  refine ⟨some ⟨w.heap.size, 0, none⟩, Lib.countB s ⟨#[c]⟩ + 1, Lib.splitB ⟨#[c]⟩ 0 (Lib.countB s ⟨#[c]⟩) s, ?_, ?_, ?_, ?_, ?_⟩
  · rw [hl]; exact he
  · have h1 := Lib.splitB_data ⟨#[c]⟩ 0 (Lib.countB s ⟨#[c]⟩) s
    have h2 : Lib.splitK [c] 0 (Lib.countB s ⟨#[c]⟩) s.data.toList = sp c (L s) := split_sp c _ (L s) (Nat.le_refl _)
    rw [← h2]
    have h3 := congrArg (List.map S) h1
    rw [List.map_map] at h3
    rw [show (S ∘ fun x : ByteArray => x.data.toList) = id from funext fun x => S_L x, List.map_id] at h3
    exact h3
  · subst hw
    refine ⟨by simp, by unfold maxLen; omega, .inr ⟨w.heap.size, 0, rfl, by simp, fun i hi => ?_⟩⟩
    have hi' : i < ((Lib.splitB ⟨#[c]⟩ 0 (Lib.countB s ⟨#[c]⟩) s).map Value.string).length := by simpa using hi
    rw [Nat.zero_add]
    unfold World.cell?
    rw [heap_alloc_new]
    simp
  · rw [hl]; omega
  · subst hw
    exact Below.alloc (Below.refl _ _) (Nat.le_refl _) _
end Go.Proofs.YtmlgmedapbeleaaGreatDoor
/-
  The walks of Name, Right, Plain, Absolute and Parts, of the document's Parts, and of the statement PathKinds.
-/
namespace Go.Proofs.YtmlgmedapbeleaaGreatDoor
open Go.RowKit

theorem indexByte_any (s : ByteArray) (c : Int) (b : Bool) (w : World) (hb : (L s).contains c.toNat.toUInt8 = b) :
    Calls Tryz.prog 73 #[.string s, .int .u8 c] w fun e w' => (∃ n : Int, e = .returned (.int .i64 n) ∧ decide (0 ≤ n) = b) ∧ w = w' :=
  (Tryz.strings_IndexByte s c w).mono fun e w' ⟨h1, h2⟩ => ⟨⟨_, h1, by rw [← hb, Lib.contains_iff_indexByte]; rfl⟩, h2.symm⟩

theorem right_any (s : ByteArray) (w : World) (hs : s.size ≤ maxLen) :
    Calls Tryz.prog 84 #[.string s] w fun e w' => e = .returned (.bool (rightB (L s))) ∧ w = w' := by
  unfold maxLen at hs
  by_cases h0 : (L s).isEmpty = true
  · have e0 : s.toList.isEmpty = true := by rw [isEmpty_L]; exact h0
    have H0 := Lib.hid h0
    clear h0
    go_enter Tryz.func84, Tryz.ntmps84
    go_wp2_with fail
    go_ret
    exact ⟨ret_bool (by rw [rightB, H0.out]; rfl), rfl⟩
  · have h0' : (L s).isEmpty = false := by simpa using h0
    have e0 : s.toList.isEmpty = false := by rw [isEmpty_L]; exact h0'
    have H0 := Lib.hid h0'
    clear h0 h0'
    by_cases h1 : s.size ≤ 4095
    · have H1 := Lib.hid h1
      go_enter Tryz.func84, Tryz.ntmps84
      go_wp2_with fail
      refine (indexByte_any s 0 _ _ rfl).mono ?_
      rintro e w' ⟨⟨n, rfl, hn⟩, rfl⟩
      have HN := Lib.hid hn
      clear hn
      go_wp2_with fail
      go_ret
      refine ⟨ret_bool ?_, rfl⟩
      have h2 : (L s).length ≤ 4095 := H1.out
      have h4 : decide (n < 0) = !decide (0 ≤ n) := by rw [Bool.eq_iff_iff]; simp
      have h3 := HN.out
      rw [show ((0 : Int).toNat.toUInt8) = (0 : UInt8) from rfl] at h3
      rw [rightB, H0.out, ← h3]
      simp [h2, h4]
    · go_enter Tryz.func84, Tryz.ntmps84
      have H1 := Lib.hid h1
      go_wp2_with fail
      go_ret
      refine ⟨ret_bool ?_, rfl⟩
      have h2 : ¬ (L s).length ≤ 4095 := H1.out
      rw [rightB, H0.out]
      simp [h2]


theorem name_any (s : ByteArray) (w : World) (hs : s.size ≤ 100000) :
    Calls Tryz.prog 44 #[.string s] w fun e w' => e = .returned (.bool (nameB (L s))) ∧ w = w' := by
  obtain ⟨r, hr⟩ : ∃ r, r = nameB (L s) := ⟨_, rfl⟩
  rw [← hr]
  have hr1 : r = (!s.toList.isEmpty && decide (s.size ≤ 255) && !(s.toList == [46]) && !(s.toList == [46, 46]) && !hasB (L s) 47 && !hasB (L s) 0) := by
    have e1 : decide (1 ≤ (L s).length) = !s.toList.isEmpty := by
      rw [isEmpty_L]
      cases L s with
      | nil => rfl
      | cons a l => simp
    rw [hr, nameB, e1, L_size, toList_L]
    cases (L s).isEmpty <;> cases decide (s.size ≤ 255) <;> cases hasB (L s) 47 <;> cases hasB (L s) 0 <;> cases (L s == [46]) <;> cases (L s == [46, 46]) <;> rfl
  clear hr
  obtain ⟨b1, hb1⟩ : ∃ b, b = hasB (L s) 47 := ⟨_, rfl⟩
  obtain ⟨b2, hb2⟩ : ∃ b, b = hasB (L s) 0 := ⟨_, rfl⟩
  have C1 := Lib.hid (fun w => indexByte_any s 47 b1 w (by rw [hb1]; rfl))
  have C2 := Lib.hid (fun w => indexByte_any s 0 b2 w (by rw [hb2]; rfl))
  rw [← hb1, ← hb2] at hr1
  clear hb1 hb2
  cases e0 : s.toList.isEmpty with
  | true =>
    have hr2 : r = false := by rw [hr1, e0]; rfl
    subst hr2
    clear hr1
    go_enter Tryz.func44, Tryz.ntmps44
    go_wp2_with fail
    go_ret
    exact ⟨rfl, rfl⟩
  | false =>
    rw [e0] at hr1
    by_cases h1 : s.size ≤ 255
    · rw [decide_eq_true h1] at hr1
      cases e1 : s.toList == [46] with
      | true =>
        have hr2 : r = false := by rw [hr1, e1]; rfl
        subst hr2
        clear hr1
        go_enter Tryz.func44, Tryz.ntmps44
        go_wp2_with fail
        go_ret
        exact ⟨rfl, rfl⟩
      | false =>
        rw [e1] at hr1
        cases e2 : s.toList == [46, 46] with
        | true =>
          have hr2 : r = false := by rw [hr1, e2]; rfl
          subst hr2
          clear hr1
          go_enter Tryz.func44, Tryz.ntmps44
          go_wp2_with fail
          go_ret
          exact ⟨rfl, rfl⟩
        | false =>
          rw [e2] at hr1
          cases b1 with
          | true =>
            have hr2 : r = false := by rw [hr1]; rfl
            subst hr2
            clear hr1
            go_enter Tryz.func44, Tryz.ntmps44
            go_wp2_with fail
            refine (C1.out _).mono ?_
            rintro e w1 ⟨⟨n, rfl, hn⟩, rfl⟩
            replace hn := of_decide_eq_true hn
            go_wp2_with fail
            go_ret
            exact ⟨rfl, rfl⟩
          | false =>
            cases b2 with
            | true =>
              have hr2 : r = false := by rw [hr1]; rfl
              subst hr2
              clear hr1
              go_enter Tryz.func44, Tryz.ntmps44
              go_wp2_with fail
              refine (C1.out _).mono ?_
              rintro e w1 ⟨⟨n, rfl, hn⟩, rfl⟩
              replace hn := of_decide_eq_false hn
              go_wp2_with fail
              refine (C2.out _).mono ?_
              rintro e w1 ⟨⟨m, rfl, hn⟩, rfl⟩
              replace hn := of_decide_eq_true hn
              go_wp2_with fail
              go_ret
              exact ⟨ret_bool (by simp; try omega), rfl⟩
            | false =>
              have hr2 : r = true := by rw [hr1]; rfl
              subst hr2
              clear hr1
              go_enter Tryz.func44, Tryz.ntmps44
              go_wp2_with fail
              refine (C1.out _).mono ?_
              rintro e w1 ⟨⟨n, rfl, hn⟩, rfl⟩
              replace hn := of_decide_eq_false hn
              go_wp2_with fail
              refine (C2.out _).mono ?_
              rintro e w1 ⟨⟨m, rfl, hn⟩, rfl⟩
              replace hn := of_decide_eq_false hn
              go_wp2_with fail
              go_ret
              exact ⟨ret_bool (by simp; try omega), rfl⟩
    · have hr2 : r = false := by rw [hr1, decide_eq_false h1]; rfl
      subst hr2
      clear hr1
      go_enter Tryz.func44, Tryz.ntmps44
      go_wp2_with fail
      go_ret
      exact ⟨rfl, rfl⟩

/-! ### the pieces, by the cut -/
theorem pieces_inv (s : ByteArray) : ∀ k, k ≤ s.size → (piecesTo s k).2 ≤ k ∧ (47 : UInt8) ∉ ((L s).drop (piecesTo s k).2).take (k - (piecesTo s k).2) ∧ (piecesTo s k).1.map L ++ sp 47 ((L s).drop (piecesTo s k).2) = sp 47 (L s)
  | 0, _ => ⟨Nat.le_refl _, by simp, by simp [piecesTo]⟩
  | k + 1, h => by
    obtain ⟨h1, h2, h3⟩ := pieces_inv s k (by omega)
    have hk : k < (L s).length := h
    have el : (L s).drop (piecesTo s k).2 = ((L s).drop (piecesTo s k).2).take (k - (piecesTo s k).2) ++ (L s).getD k 0 :: (L s).drop (k + 1) := by
      rw [← drop_getD (L s) hk]
      conv => lhs; rw [← List.take_append_drop (k - (piecesTo s k).2) ((L s).drop (piecesTo s k).2)]
      rw [List.drop_drop, show (piecesTo s k).2 + (k - (piecesTo s k).2) = k by omega]
    by_cases hc : (L s).getD k 0 = 47
    · rw [piecesTo_yes hc]
      refine ⟨Nat.le_refl _, by simp, ?_⟩
      rw [hc] at el
      rw [el, sp_app _ h2] at h3
      rw [List.map_append, List.append_assoc, ← h3, List.map_singleton, L_extract]
      rfl
    · rw [piecesTo_no hc]
      refine ⟨by omega, ?_, h3⟩
      rw [show k + 1 - (piecesTo s k).2 = (k - (piecesTo s k).2) + 1 by omega, List.take_add_one]
      intro hm
      rcases List.mem_append.1 hm with hm | hm
      · exact h2 hm
      · rw [List.getElem?_drop, show (piecesTo s k).2 + (k - (piecesTo s k).2) = k by omega, List.getElem?_eq_getElem hk] at hm
        simp at hm
        apply hc
        simp [List.getD, List.getElem?_eq_getElem hk, hm]

theorem piecesS_sp (s : ByteArray) : piecesS s = (sp 47 (L s)).map S := by
  obtain ⟨h1, h2, h3⟩ := pieces_inv s s.size (Nat.le_refl _)
  have e : (L s).drop (piecesTo s s.size).2 = ((L s).drop (piecesTo s s.size).2).take (s.size - (piecesTo s s.size).2) := by
    rw [List.take_of_length_le (by rw [List.length_drop, L_size]; omega)]
  rw [← e] at h2
  rw [sp_no h2] at h3
  have h4 := congrArg (List.map S) h3
  rw [← h4, List.map_append, List.map_map, show (S ∘ L) = id from funext fun x => S_L x, List.map_id, piecesS, List.map_singleton, S_extract_from]

set_option maxHeartbeats 800000 in
theorem plain_any (s : ByteArray) (w : World) (hs : s.size ≤ 100000) (hv : Held w) :
    Calls Tryz.prog 64 #[.string s] w fun e w' => e = .returned (.bool (plainB s)) ∧ Below w.heap.size w w' := by
  have hp0 : plainB s = (((sp 47 (L s)).map S).all (fun x => nameB (L x)) && rightB (L s)) := by rw [plainB, piecesS_sp]
  have C0 := Lib.hid (fun w => right_any s w (by unfold maxLen; omega))
  have C1 := Lib.hid (split_any s 47 w hs hv)
  have hsz : ∀ x ∈ (sp 47 (L s)).map S, x.size ≤ 100000 := fun x hx => Nat.le_trans (piecesS_size s x (by rw [piecesS_sp]; exact hx)) hs
  have HSZ := Lib.hid hsz
  cases hr : rightB (L s) with
  | false =>
    rw [hr] at C0
    rw [hr, Bool.and_false] at hp0
    have HP := Lib.hid hp0
    clear hr hp0 hsz
    go_enter Tryz.func64, Tryz.ntmps64
    go_wp2_with fail
    refine (C0.out _).mono ?_
    rintro e w1 ⟨rfl, rfl⟩
    go_wp2_with fail
    go_ret
    exact ⟨ret_bool HP.out.symm, Below.refl _ _⟩
  | true =>
    rw [hr] at C0
    rw [hr, Bool.and_true] at hp0
    have HP := Lib.hid hp0
    clear hr hp0 hsz
    go_enter Tryz.func64, Tryz.ntmps64
    go_wp2_with fail
    refine (C0.out _).mono ?_
    rintro e w1 ⟨rfl, rfl⟩
    go_wp2_with fail
    refine C1.out.mono ?_
    rintro e w1 ⟨a, cap, xs, rfl, hxs, hE, hxl, hb1⟩
    rw [← hxs] at HP HSZ
    obtain ⟨b1, o1, r1, _, c1⟩ := hE.open 118 9 Tryz.underlying118 (by kernel_rfl)
    have R1 := Lib.hid r1
    have CC1 := Lib.hid c1
    clear hE r1 c1 hxs
    go_wp2_with fail
    go_loopw [11] (fun i wr => ∃ (k : Nat), k ≤ xs.length ∧ i = .int .i64 k ∧ wr = w1 ∧ namesTo xs k) (fun i _ => xs.length - (intOf i).toNat)
    case atStart => exact ⟨0, Nat.zero_le _, rfl, rfl, fun i x h => by omega⟩
    case round =>
      obtain ⟨k, hk, rfl, rfl, hnames⟩ := hrel
      have HN := Lib.hid hnames
      clear hnames
      by_cases hlt : k < xs.length
      · have j1 := fun w' => R1.out k cap w' hlt
        obtain ⟨x, hx⟩ : ∃ x, xs[k]? = some x := ⟨_, List.getElem?_eq_getElem hlt⟩
        have d1 : wr.cell? ⟨b1, o1 + k, none⟩ = some (.string x) := by rw [CC1.out k hlt, List.getElem?_map, hx]; rfl
        have hxm : x ∈ xs := List.mem_of_getElem? hx
        have C2 := Lib.hid (fun w => name_any x w (HSZ.out x hxm))
        cases hnb : nameB (L x) with
        | true =>
          rw [hnb] at C2
          have hn2 : namesTo xs (k + 1) := fun i y hi hy => by
            by_cases hik : i < k
            · exact HN.out i y hik hy
            · obtain rfl : i = k := by omega
              rw [hx] at hy; cases hy; exact hnb
          have HN2 := Lib.hid hn2
          clear hn2 hx hxm hnb
          go_wp2_with fail
          refine (C2.out _).mono ?_
          rintro e w2 ⟨rfl, rfl⟩
          go_wp2_with fail
          go_roundw
          case rel => exact ⟨k + 1, by omega, by go_num, by first | trivial | rfl, HN2.out⟩
          case measure => simp [intOf]; omega
        | false =>
          rw [hnb] at C2
          have hp2 : plainB s = false := by rw [HP.out]; exact List.all_eq_false.2 ⟨x, hxm, by rw [hnb]; decide⟩
          have HP2 := Lib.hid hp2
          clear hp2 hx hxm hnb
          go_wp2_with fail
          refine (C2.out _).mono ?_
          rintro e w2 ⟨rfl, rfl⟩
          go_wp2_with fail
          go_ret
          exact ⟨ret_bool HP2.out.symm, hb1⟩
      · obtain rfl : k = xs.length := by omega
        have hp2 : plainB s = true := by
          rw [HP.out]
          exact List.all_eq_true.2 fun x hx => by
            obtain ⟨i, hi, e⟩ := List.getElem_of_mem hx
            exact HN.out i x hi (by rw [List.getElem?_eq_getElem hi, e])
        have HP2 := Lib.hid hp2
        clear hp2
        go_wp2_with fail
        go_ret
        exact ⟨ret_bool HP2.out.symm, hb1⟩

def someS (x : ByteArray) : Bool := !x.toList.isEmpty
/-- The pieces that are not empty, among the first k. -/
def partsTo (xs : List ByteArray) (k : Nat) : List ByteArray := (xs.take k).filter someS
theorem partsTo_len (xs : List ByteArray) (k : Nat) : (partsTo xs k).length ≤ k := Nat.le_trans (List.length_filter_le _ _) (by rw [List.length_take]; omega)
theorem partsTo_succ {xs : List ByteArray} {k : Nat} {x : ByteArray} (h : xs[k]? = some x) : partsTo xs (k + 1) = partsTo xs k ++ (if someS x then [x] else []) := by
  rw [partsTo, partsTo, List.take_add_one, h, List.filter_append]
  cases hx : someS x <;> simp [hx]
def partsS (s : ByteArray) : List ByteArray := partsTo (piecesS s) (piecesS s).length

end Go.Proofs.YtmlgmedapbeleaaGreatDoor
/-
  The plain law of PathBack.
-/
namespace Go.Proofs.YtmlgmedapbeleaaGreatDoor
open Go.RowKit

theorem sp_split (c : UInt8) : ∀ (a b : List UInt8), sp c (a ++ c :: b) = sp c a ++ sp c b
  | [], b => by
    show sp c (c :: b) = [] :: sp c b
    rw [sp, if_pos rfl]
  | d :: a, b => by
    rw [List.cons_append, sp, sp, sp_split c a b]
    split
    · rfl
    · cases h : sp c a with
      | nil => exact absurd h (sp_ne c a)
      | cons p ps => rfl

/-- The places of the slashes among the first n bytes. -/
def slTo (l : List UInt8) : Nat → List Nat
  | 0 => []
  | n + 1 => if l.getD n 0 = 47 then slTo l n ++ [n] else slTo l n
theorem slTo_mem (l : List UInt8) : ∀ n, ∀ j ∈ slTo l n, j < n ∧ l.getD j 0 = 47
  | 0, j, h => by simp [slTo] at h
  | n + 1, j, h => by
    rw [slTo] at h
    split at h
    · rename_i hc
      rcases List.mem_append.1 h with h | h
      · have := slTo_mem l n j h; exact ⟨by omega, this.2⟩
      · rw [List.mem_singleton.1 h]; exact ⟨by omega, hc⟩
    · have := slTo_mem l n j h; exact ⟨by omega, this.2⟩
theorem slTo_up (l : List UInt8) : ∀ n, (slTo l n).Pairwise (· < ·)
  | 0 => by simp [slTo]
  | n + 1 => by
    rw [slTo]
    split
    · exact List.pairwise_append.2 ⟨slTo_up l n, by simp, fun a ha b hb => by rw [List.mem_singleton.1 hb]; exact (slTo_mem l n a ha).1⟩
    · exact slTo_up l n
theorem slTo_last (l : List UInt8) : ∀ n, (lastTo l n = -1 ∧ slTo l n = []) ∨ ∃ v : Nat, lastTo l n = v ∧ v < n ∧ l.getD v 0 = 47 ∧ (slTo l n).getLast? = some v
  | 0 => .inl ⟨rfl, rfl⟩
  | n + 1 => by
    rw [slTo, lastTo]
    split
    · rename_i h
      exact .inr ⟨n, rfl, by omega, h, by simp⟩
    · rcases slTo_last l n with h | ⟨v, h1, h2, h3, h4⟩
      · exact .inl h
      · exact .inr ⟨v, h1, by omega, h3, h4⟩
theorem above_sl (s : ByteArray) : ∀ n, aboveTo s n = (slTo (L s) n).map (s.extract 0 ·)
  | 0 => rfl
  | n + 1 => by
    rw [aboveTo, slTo, above_sl s n]
    split <;> simp
theorem pieces_sl (s : ByteArray) : ∀ n, (piecesTo s n).1.length = (slTo (L s) n).length
  | 0 => rfl
  | n + 1 => by
    rw [piecesTo, slTo]
    split <;> simp [pieces_sl s n]

def namesL (l : List UInt8) : Prop := ∀ p ∈ sp 47 l, nameB p = true
theorem namesL_facts {l : List UInt8} (h : namesL l) : l ≠ [] ∧ l.getD (l.length - 1) 0 ≠ 47 := by
  refine ⟨fun e => ?_, fun e => ?_⟩
  · subst e; exact absurd (h [] (by simp [sp])) (by decide)
  · by_cases h0 : l = []
    · subst h0; simp [List.getD] at e
    · have el : l = l.dropLast ++ 47 :: [] := by
        rw [← e]
        conv => lhs; rw [← List.dropLast_concat_getLast h0]
        rw [List.getLast_eq_getElem h0]
        congr 2
        simp [List.getD, List.getElem?_eq_getElem (show l.length - 1 < l.length from by have := List.length_pos_iff.2 h0; omega)]
      have : [] ∈ sp 47 l := by rw [el, sp_split]; simp [sp]
      exact absurd (h [] this) (by decide)
theorem at_slash {l : List UInt8} {j : Nat} (hj : j < l.length) (hc : l.getD j 0 = 47) : l = l.take j ++ 47 :: l.drop (j + 1) := by
  rw [← hc, ← drop_getD l hj, List.take_append_drop]
theorem namesL_take {l : List UInt8} (h : namesL l) {j : Nat} (hj : j < l.length) (hc : l.getD j 0 = 47) : namesL (l.take j) := fun p hp => h p (by rw [at_slash hj hc, sp_split]; exact List.mem_append.2 (.inl hp))

theorem plainB_names {s : ByteArray} : plainB s = true ↔ namesL (L s) ∧ rightB (L s) = true := by
  rw [plainB, piecesS_sp, Bool.and_eq_true, List.all_eq_true]
  refine and_congr_left fun _ => ⟨fun h p hp => ?_, fun h x hx => ?_⟩
  · exact h (S p) (List.mem_map.2 ⟨p, hp, rfl⟩)
  · obtain ⟨p, hp, rfl⟩ := List.mem_map.1 hx; exact h p hp

theorem rightB_take {l : List UInt8} (h : rightB l = true) {j : Nat} (hne : l.take j ≠ []) : rightB (l.take j) = true := by
  simp only [rightB, Bool.and_eq_true, decide_eq_true_eq, Bool.not_eq_true'] at h ⊢
  obtain ⟨⟨_, h2⟩, h3⟩ := h
  refine ⟨⟨by simpa using hne, by rw [List.length_take]; omega⟩, ?_⟩
  rw [List.contains_eq_mem, decide_eq_false_iff_not] at h3 ⊢
  exact fun hm => h3 (List.mem_of_mem_take hm)

theorem getD_take {l : List UInt8} {i j : Nat} (h : i < j) : (l.take j).getD i 0 = l.getD i 0 := by
  simp only [List.getD]; rw [List.getElem?_take_of_lt h]

theorem under_take {l : List UInt8} {j : Nat} (hj : j < l.length) (hc : l.getD j 0 = 47) : underB l (l.take j) = true := by
  rw [underB, List.length_take, Nat.min_eq_left (by omega), decide_eq_true hj, hc]
  simp

theorem bareL_snoc {a : List UInt8} (ha : a ≠ []) (ha2 : a.getD (a.length - 1) 0 ≠ 47) : bareL (a ++ [47]) = a := by
  have hap := List.length_pos_iff.2 ha
  have e : (a ++ [47]).length = a.length + 1 := by simp
  rw [bareL, e, cutTo_step (a ++ [47]) a.length ⟨hap, by rw [getD_app_right (Nat.le_refl _), Nat.sub_self]; rfl⟩]
  obtain ⟨m, hm⟩ : ∃ m, a.length = m + 1 := ⟨a.length - 1, by omega⟩
  rw [hm, cutTo_stop (a ++ [47]) m (fun h => ha2 (by
    have := h.2
    rw [getD_app_left (by omega)] at this
    rw [hm]; exact this)), ← hm, List.take_left]

theorem parts_all {s : ByteArray} (h : plainB s = true) : partsS s = piecesS s := by
  rw [partsS, partsTo, List.take_length, List.filter_eq_self]
  intro x hx
  have h1 := (List.all_eq_true.1 (by rw [plainB, Bool.and_eq_true] at h; exact h.1)) x hx
  have := (nameB_facts h1).1
  rw [someS, isEmpty_L]
  simpa using this

/-- A plain path, by its last slash. -/
theorem back_cases {s : ByteArray} (h : plainB s = true) :
    (dirL (L s) = [46] ∧ baseL (L s) = L s ∧ slTo (L s) s.size = []) ∨
    ∃ v : Nat, v < s.size ∧ (L s).getD v 0 = 47 ∧ (slTo (L s) s.size).getLast? = some v ∧ dirL (L s) = (L s).take v ∧ baseL (L s) = (L s).drop (v + 1) ∧ dirL (L s) ≠ [46] := by
  obtain ⟨hn, hr⟩ := plainB_names.1 h
  obtain ⟨h1, h2⟩ := namesL_facts hn
  have hb := bareL_id h2
  have h47 : L s ≠ [47] := fun e => h2 (by rw [e]; rfl)
  rcases slTo_last (L s) s.size with ⟨e1, e2⟩ | ⟨v, e1, e2, e3, e4⟩
  · left
    have e1' : lastL (L s) = -1 := e1
    exact ⟨by rw [dirL, hb, if_neg h47, e1', if_pos (by decide)], by rw [baseL, hb, if_neg h47, e1']; rfl, e2⟩
  · right
    have e1' : lastL (L s) = v := e1
    have ht := namesL_take hn (show v < (L s).length from e2) e3
    obtain ⟨t1, t2⟩ := namesL_facts ht
    have hd : dirL (L s) = (L s).take v := by
      rw [dirL, hb, if_neg h47, e1', if_neg (by omega), show ((v : Int) + 1).toNat = v + 1 by omega]
      have : (L s).take (v + 1) = (L s).take v ++ [47] := by
        rw [List.take_add_one, ← e3]
        congr 1
        simp [List.getD, List.getElem?_eq_getElem (show v < (L s).length from e2)]
      rw [this, bareL_snoc t1 t2]
    refine ⟨v, e2, e3, e4, hd, by rw [baseL, hb, if_neg h47, e1', show ((v : Int) + 1).toNat = v + 1 by omega], fun e => ?_⟩
    rw [hd] at e
    have := ht [46] (by rw [e]; simp [sp])
    exact absurd this (by decide)

theorem back_law {s : ByteArray} (h : plainB s = true) (hne : dirL (L s) ≠ [46]) :
    (∀ (i : Nat) (x : ByteArray), (aboveTo s s.size)[i]? = some x → underB (L s) (L x) = true ∧ plainB x = true ∧ x.size ≤ s.size ∧ ∀ y, 0 < i → (aboveTo s s.size)[i - 1]? = some y → underB (L x) (L y) = true) ∧
    joinL (dirL (L s)) (baseL (L s)) = L s ∧ (partsS s).length = (aboveTo s s.size).length + 1 ∧ 0 < (aboveTo s s.size).length ∧ (aboveTo s s.size)[(aboveTo s s.size).length - 1]? = some (S (dirL (L s))) := by
  obtain ⟨hn, hr⟩ := plainB_names.1 h
  rcases back_cases h with ⟨e, _⟩ | ⟨v, e2, e3, e4, hd, hb, _⟩
  · exact absurd e hne
  · have hv := namesL_take hn (show v < (L s).length from e2) e3
    obtain ⟨t1, t2⟩ := namesL_facts hv
    refine ⟨fun i x hx => ?_, ?_, ?_, ?_, ?_⟩
    · rw [above_sl, List.getElem?_map, Option.map_eq_some_iff] at hx
      obtain ⟨j, hj, rfl⟩ := hx
      obtain ⟨j1, j2⟩ := slTo_mem (L s) s.size j (List.mem_of_getElem? hj)
      have hjn := namesL_take hn (show j < (L s).length from j1) j2
      have ex : L (s.extract 0 j) = (L s).take j := by rw [L_extract]; rfl
      refine ⟨by rw [ex]; exact under_take j1 j2, plainB_names.2 (by rw [ex]; exact ⟨hjn, rightB_take hr (namesL_facts hjn).1⟩), extract_len s _ _, fun y hi hy => ?_⟩
      rw [above_sl, List.getElem?_map, Option.map_eq_some_iff] at hy
      obtain ⟨k, hk, rfl⟩ := hy
      obtain ⟨k1, k2⟩ := slTo_mem (L s) s.size k (List.mem_of_getElem? hk)
      have hkj : k < j := by
        obtain ⟨a1, a2⟩ := List.getElem?_eq_some_iff.1 hk
        obtain ⟨b1, b2⟩ := List.getElem?_eq_some_iff.1 hj
        have := List.pairwise_iff_getElem.1 (slTo_up (L s) s.size) (i - 1) i a1 b1 (by omega)
        rw [a2, b2] at this
        exact this
      have ey : L (s.extract 0 k) = ((L s).take j).take k := by rw [L_extract, List.take_take, Nat.min_eq_left (by omega)]; rfl
      rw [ex, ey]
      have hlen : k < ((L s).take j).length := by rw [List.length_take]; have := L_size s; omega
      exact under_take hlen (by rw [getD_take hkj]; exact k2)
    · rw [hd, hb, joinL, if_neg t1, if_neg t2, List.append_assoc]
      exact (at_slash (show v < (L s).length from e2) e3).symm
    · rw [parts_all h, piecesS, List.length_append, pieces_sl, above_sl, List.length_map]; rfl
    · rw [above_sl, List.length_map]
      exact List.length_pos_iff.2 fun e => by rw [e] at e4; cases e4
    · rw [above_sl, List.length_map, List.getElem?_map, ← List.getLast?_eq_getElem?, e4, hd]
      exact congrArg some (S_extract_to s v)

theorem back_dot {s : ByteArray} (h : plainB s = true) (hd : dirL (L s) = [46]) : baseL (L s) = L s ∧ aboveTo s s.size = [] := by
  rcases back_cases h with ⟨_, e1, e2⟩ | ⟨v, _, _, _, _, _, e⟩
  · exact ⟨e1, by rw [above_sl, e2]; rfl⟩
  · exact absurd hd e
end Go.Proofs.YtmlgmedapbeleaaGreatDoor
/-
  Trees of files, plain: items, what is wrong with one, where a path stands, what the program's maps hold.
-/
namespace Go.Proofs.YtmlgmedapbeleaaGreatDoor
open Go.RowKit

/-- An item. -/
structure It where
  p : ByteArray
  k : Int
  m : Int
  d : ByteArray
  s : ByteArray
def It0 : It := ⟨⟨#[]⟩, 0, 0, ⟨#[]⟩, ⟨#[]⟩⟩
def itC (x : It) : List Value := [.string x.p, .int .i64 x.k, .int .i64 x.m, .string x.d, .string x.s]
def itV (x : It) : Value := .agg #[.string x.p, .int .i64 x.k, .int .i64 x.m, .string x.d, .string x.s]
theorem itC_len (x : It) : (itC x).length = 5 := rfl

/-- What is wrong with an item by itself. -/
def bodyE (x : It) : Int :=
  if (x.k = 2 ∧ L x.d ≠ []) ∨ (x.k ≠ 1 ∧ L x.s ≠ []) then 43
  else if (x.k = 1 ∧ 4194304 < x.d.size) ∨ (x.k = 3 ∧ 4095 < x.d.size) then 18
  else if x.k = 3 ∧ rightB (L x.d) = false then 11 else 0
def aloneE (x : It) : Int :=
  if plainB x.p = false then 11
  else if x.k < 1 ∨ 3 < x.k then 43
  else if x.m < 0 ∨ 4095 < x.m ∨ (x.k = 3 ∧ x.m ≠ 511) then 10
  else bodyE x

/-- What stands ahead of a path's last slash. -/
def upL (l : List UInt8) : List UInt8 := if lastL l < 0 then [] else l.take (lastL l).toNat
theorem up_cases {s : ByteArray} (h : plainB s = true) : (dirL (L s) = [46] ∧ upL (L s) = []) ∨ (dirL (L s) ≠ [46] ∧ dirL (L s) = upL (L s) ∧ upL (L s) ≠ []) := by
  obtain ⟨hn, _⟩ := plainB_names.1 h
  obtain ⟨h1, h2⟩ := namesL_facts hn
  have hb := bareL_id h2
  have h47 : L s ≠ [47] := fun e => h2 (by rw [e]; rfl)
  rcases slTo_last (L s) s.size with ⟨e1, e2⟩ | ⟨v, e1, e2, e3, e4⟩
  · left
    have e1' : lastL (L s) = -1 := e1
    exact ⟨by rw [dirL, hb, if_neg h47, e1', if_pos (by decide)], by rw [upL, e1']; rfl⟩
  · right
    have e1' : lastL (L s) = v := e1
    have ht := namesL_take hn (show v < (L s).length from e2) e3
    obtain ⟨t1, t2⟩ := namesL_facts ht
    have hd : dirL (L s) = (L s).take v := by
      rw [dirL, hb, if_neg h47, e1', if_neg (by omega), show ((v : Int) + 1).toNat = v + 1 by omega]
      have : (L s).take (v + 1) = (L s).take v ++ [47] := by
        rw [List.take_add_one, ← e3]
        congr 1
        simp [List.getD, List.getElem?_eq_getElem (show v < (L s).length from e2)]
      rw [this, bareL_snoc t1 t2]
    have hu : upL (L s) = (L s).take v := by rw [upL, e1', if_neg (by omega)]; rfl
    refine ⟨fun e => ?_, by rw [hd, hu], by rw [hu]; exact t1⟩
    rw [hd] at e
    have := ht [46] (by rw [e]; simp [sp])
    exact absurd this (by decide)

/-- The place of a path. -/
def findI (l : List It) (t : List UInt8) : Option Nat := l.findIdx? (fun x => decide (L x.p = t))
def findV (l : List It) (t : List UInt8) : Option It := l.find? (fun x => decide (L x.p = t))
def findZ (l : List It) (t : List UInt8) : Int := match findI l t with | some i => (i : Int) | none => -1
theorem findV_eq (l : List It) (t : List UInt8) : findV l t = (findI l t).bind (fun i => l[i]?) := List.find?_eq_bind_findIdx?_getElem?
theorem findI_some {l : List It} {t : List UInt8} {i : Nat} (h : findI l t = some i) : ∃ x, l[i]? = some x ∧ L x.p = t ∧ ∀ j, j < i → ∀ y, l[j]? = some y → L y.p ≠ t := by
  obtain ⟨hi, h1, h2⟩ := List.findIdx?_eq_some_iff_getElem.1 h
  refine ⟨l[i], List.getElem?_eq_getElem hi, by simpa using h1, fun j hj y hy => ?_⟩
  obtain ⟨hjl, rfl⟩ := List.getElem?_eq_some_iff.1 hy
  simpa using h2 j hj
theorem findI_none {l : List It} {t : List UInt8} (h : findI l t = none) : ∀ x ∈ l, L x.p ≠ t := by
  intro x hx
  simpa using List.findIdx?_eq_none_iff.1 h x hx
theorem findI_at {l : List It} {t : List UInt8} {i : Nat} {x : It} (hx : l[i]? = some x) (hp : L x.p = t) (hno : ∀ j, j < i → ∀ y, l[j]? = some y → L y.p ≠ t) : findI l t = some i := by
  obtain ⟨hi, rfl⟩ := List.getElem?_eq_some_iff.1 hx
  exact List.findIdx?_eq_some_iff_getElem.2 ⟨hi, by simpa using hp, fun j hj => by simpa using hno j hj _ (List.getElem?_eq_getElem (by omega))⟩
theorem findI_end {l : List It} {t : List UInt8} (hno : ∀ j, j < l.length → ∀ y, l[j]? = some y → L y.p ≠ t) : findI l t = none := by
  refine List.findIdx?_eq_none_iff.2 fun x hx => ?_
  obtain ⟨j, hj, e⟩ := List.getElem_of_mem hx
  simpa using hno j hj x (by rw [List.getElem?_eq_getElem hj, e])

/-- What is wrong with the i-th item, which is x, behind those ahead of it (the one just ahead has path q). -/
def linkE (l : List It) (x : It) : Int :=
  if L x.s = [] then 0 else match findV l (L x.s) with
    | some o => if o.k ≠ 1 ∨ L o.s ≠ [] ∨ o.m ≠ x.m ∨ L x.d ≠ [] then 22 else 0
    | none => 22
def upE (l : List It) (x : It) : Int :=
  if upL (L x.p) = [] then linkE l x else match findV l (upL (L x.p)) with
    | some o => if o.k ≠ 2 then 14 else linkE l x
    | none => 14
def lastP (l : List It) : List UInt8 := match l.getLast? with | some y => L y.p | none => []
def nextE (l : List It) (x : It) : Int :=
  if aloneE x ≠ 0 then aloneE x else if ¬ lastP l < L x.p then 13 else upE l x
def itE (l : List It) (i : Nat) : Int := match l[i]? with | some x => nextE (l.take i) x | none => 0
def okTo (l : List It) (n : Nat) : Prop := ∀ i, i < n → itE l i = 0
theorem itE_at {l : List It} {i : Nat} {x : It} (h : l[i]? = some x) : itE l i = nextE (l.take i) x := by rw [itE, h]
theorem lastP_snoc (l : List It) (x : It) : lastP (l ++ [x]) = L x.p := by simp [lastP]
theorem okTo_succ {l : List It} {n : Nat} (h : okTo l n) (he : itE l n = 0) : okTo l (n + 1) := fun i hi => by
  by_cases h1 : i < n
  · exact h i h1
  · obtain rfl : i = n := by omega
    exact he

/-- An error, and of which item. -/
def Chk (l : List It) (e : Int) (i : Nat) : Prop := (l = [] ∧ e = 12 ∧ i = 0) ∨ (l ≠ [] ∧ okTo l l.length ∧ e = 0 ∧ i = 0) ∨ (i < l.length ∧ okTo l i ∧ e = itE l i ∧ e ≠ 0)
theorem Chk.same {l : List It} {e f : Int} {i j : Nat} (h : Chk l e i) (h' : Chk l f j) : e = f ∧ i = j := by
  rcases h with ⟨h1, h2, h3⟩ | ⟨h1, h2, h3, h4⟩ | ⟨h1, h2, h3, h4⟩
  · rcases h' with ⟨g1, g2, g3⟩ | ⟨g1, _⟩ | ⟨g1, _⟩
    · omega
    · exact absurd h1 g1
    · rw [h1] at g1; simp at g1
  · rcases h' with ⟨g1, _⟩ | ⟨g1, g2, g3, g4⟩ | ⟨g1, g2, g3, g4⟩
    · exact absurd g1 h1
    · omega
    · exact absurd (g3.trans (h2 j g1)) g4
  · rcases h' with ⟨g1, _⟩ | ⟨g1, g2, g3, g4⟩ | ⟨g1, g2, g3, g4⟩
    · rw [g1] at h1; simp at h1
    · exact absurd (h3.trans (g2 i h1)) h4
    · have : i = j := by
        rcases Nat.lt_trichotomy i j with h | h | h
        · exact absurd (h3.trans (g2 i h)) h4
        · exact h
        · exact absurd (g3.trans (h2 j h)) g4
      subst this
      exact ⟨by rw [h3, g3], rfl⟩

/-! ### rising paths -/
theorem lt_irrefl' (l : List UInt8) : ¬ l < l := List.lt_irrefl l
theorem lt_trans' {a b c : List UInt8} (h : a < b) (h' : b < c) : a < c := List.lt_trans h h'
theorem ok_alone {l : List It} {n i : Nat} {x : It} (h : okTo l n) (hi : i < n) (hx : l[i]? = some x) : aloneE x = 0 := by
  have := h i hi
  rw [itE_at hx, nextE] at this
  by_cases h0 : aloneE x = 0
  · exact h0
  · rw [if_pos h0] at this; exact absurd this h0
theorem ok_rises {l : List It} {n i : Nat} {x y : It} (h : okTo l n) (hi : i + 1 < n) (hx : l[i]? = some x) (hy : l[i + 1]? = some y) : L x.p < L y.p := by
  have h1 := h (i + 1) hi
  rw [itE_at hy, nextE, if_neg (by rw [ok_alone h hi hy]; simp)] at h1
  have h2 : lastP (l.take (i + 1)) = L x.p := by
    obtain ⟨hl, rfl⟩ := List.getElem?_eq_some_iff.1 hx
    rw [List.take_succ_eq_append_getElem hl, lastP_snoc]
  rw [h2] at h1
  by_cases h3 : L x.p < L y.p
  · exact h3
  · rw [if_pos h3] at h1; cases h1
theorem ok_up {l : List It} {n : Nat} (h : okTo l n) : ∀ (j i : Nat) (x y : It), i < j → j < n → l[i]? = some x → l[j]? = some y → L x.p < L y.p := by
  intro j
  induction j with
  | zero => intro i x y hi; omega
  | succ j ih =>
    intro i x y hi hj hx hy
    by_cases hij : i = j
    · subst hij; exact ok_rises h hj hx hy
    · have hjl : j < l.length := by have := (List.getElem?_eq_some_iff.1 hy).1; omega
      exact lt_trans' (ih i x l[j] (by omega) (by omega) hx (List.getElem?_eq_getElem hjl)) (ok_rises h hj (List.getElem?_eq_getElem hjl) hy)
theorem ok_ne {l : List It} {n : Nat} (h : okTo l n) {i j : Nat} {x y : It} (hij : i ≠ j) (hi : i < n) (hj : j < n) (hx : l[i]? = some x) (hy : l[j]? = some y) : L x.p ≠ L y.p := fun e => by
  rcases Nat.lt_or_gt_of_ne hij with h1 | h1
  · have := ok_up h j i x y h1 hj hx hy
    rw [e] at this
    exact lt_irrefl' _ this
  · have := ok_up h i j y x h1 hi hy hx
    rw [e] at this
    exact lt_irrefl' _ this

/-! ### the program's maps -/
def kM : List It → List UInt8 → Option It
  | l, t => (l.foldl (fun (m : List UInt8 → Option It) x t => if t = L x.p then some x else m t) (fun _ => none)) t
def fM : List It → List UInt8 → Option It
  | l, t => (l.foldl (fun (m : List UInt8 → Option It) x t => if (L x.s = [] ∧ x.k = 1) ∧ t = L x.p then some x else m t) (fun _ => none)) t
theorem kM_snoc (l : List It) (x : It) (t : List UInt8) : kM (l ++ [x]) t = if t = L x.p then some x else kM l t := by rw [kM, List.foldl_append]; rfl
theorem fM_snoc (l : List It) (x : It) (t : List UInt8) : fM (l ++ [x]) t = if (L x.s = [] ∧ x.k = 1) ∧ t = L x.p then some x else fM l t := by rw [fM, List.foldl_append]; rfl
theorem findV_snoc (l : List It) (x : It) (t : List UInt8) : findV (l ++ [x]) t = match findV l t with | some y => some y | none => if L x.p = t then some x else none := by
  rw [findV, findV, List.find?_append]
  cases h : l.find? (fun x => decide (L x.p = t)) with
  | some y => rfl
  | none => by_cases e : L x.p = t <;> simp [e]
theorem findV_none_of {l : List It} {n : Nat} {x : It} (h : okTo l (n + 1)) (hx : l[n]? = some x) : findV (l.take n) (L x.p) = none := by
  rw [findV, List.find?_eq_none]
  intro y hy
  obtain ⟨j, hj, e⟩ := List.getElem_of_mem hy
  have hjn : j < n := by rw [List.length_take] at hj; omega
  rw [List.getElem_take] at e
  have hy' : l[j]? = some y := by rw [← e]; exact List.getElem?_eq_getElem (by rw [List.length_take] at hj; omega)
  simpa using ok_ne h (show j ≠ n by omega) (by omega) (by omega) hy' hx
theorem kM_find {l : List It} : ∀ (n : Nat), n ≤ l.length → okTo l n → ∀ t, kM (l.take n) t = findV (l.take n) t
  | 0, _, _, t => rfl
  | n + 1, hn, h, t => by
    have hx : l[n]? = some l[n] := List.getElem?_eq_getElem (by omega)
    have ih := kM_find n (by omega) (fun i hi => h i (by omega)) t
    rw [List.take_succ_eq_append_getElem (by omega), kM_snoc, findV_snoc, ih]
    by_cases e : t = L l[n].p
    · subst e
      rw [findV_none_of h hx, if_pos rfl]
    · rw [if_neg e]
      cases findV (l.take n) t with
      | some y => rfl
      | none => rw [if_neg (Ne.symm e)]
theorem fM_find {l : List It} : ∀ (n : Nat), n ≤ l.length → okTo l n → ∀ t, fM (l.take n) t = match findV (l.take n) t with | some x => if L x.s = [] ∧ x.k = 1 then some x else none | none => none
  | 0, _, _, t => rfl
  | n + 1, hn, h, t => by
    have hx : l[n]? = some l[n] := List.getElem?_eq_getElem (by omega)
    have ih := fM_find n (by omega) (fun i hi => h i (by omega)) t
    rw [List.take_succ_eq_append_getElem (by omega), fM_snoc, findV_snoc, ih]
    by_cases e : t = L l[n].p
    · subst e
      rw [findV_none_of h hx]; simp
    · rw [if_neg (fun h => e h.2)]
      cases findV (l.take n) t with
      | some y => rfl
      | none => rw [if_neg (Ne.symm e)]

/-- What add tells, by the maps. -/
def addLinkE (f : Option It) (x : It) : Int :=
  if L x.s = [] then 0 else match f with
    | some o => if o.m ≠ x.m ∨ L x.d ≠ [] then 22 else 0
    | none => 22
def addE (k : Option It) (f : Option It) (last : List UInt8) (x : It) : Int :=
  if aloneE x ≠ 0 then aloneE x else if ¬ last < L x.p then 13
  else if dirL (L x.p) ≠ [46] ∧ (match k with | some o => o.k | none => 0) ≠ 2 then 14 else addLinkE f x
theorem addE_itE {l : List It} {n : Nat} {x : It} (hx : l[n]? = some x) (h : okTo l n) :
    addE (kM (l.take n) (dirL (L x.p))) (fM (l.take n) (L x.s)) (lastP (l.take n)) x = itE l n := by
  have hn : n ≤ l.length := by have := (List.getElem?_eq_some_iff.1 hx).1; omega
  rw [itE_at hx, kM_find n hn h, fM_find n hn h]
  unfold addE nextE
  by_cases h1 : aloneE x = 0
  · have a1 : ¬ (aloneE x ≠ 0) := by simp [h1]
    rw [if_neg a1, if_neg a1]
    by_cases h2 : lastP (l.take n) < L x.p
    · have a2 : ¬ ¬ lastP (l.take n) < L x.p := fun h => h h2
      rw [if_neg a2, if_neg a2]
      have hpl : plainB x.p = true := by
        cases hp : plainB x.p with
        | true => rfl
        | false => rw [aloneE, if_pos hp] at h1; cases h1
      have hlink : addLinkE (match findV (l.take n) (L x.s) with | some x => if L x.s = [] ∧ x.k = 1 then some x else none | none => none) x = linkE (l.take n) x := by
        unfold addLinkE linkE
        by_cases h3 : L x.s = []
        · rw [if_pos h3, if_pos h3]
        · rw [if_neg h3, if_neg h3]
          cases findV (l.take n) (L x.s) with
          | none => rfl
          | some o =>
            by_cases h4 : L o.s = [] ∧ o.k = 1
            · simp [h4]
            · simp only [if_neg h4]
              rw [if_pos]
              by_cases h5 : o.k = 1
              · exact .inr (.inl fun e => h4 ⟨e, h5⟩)
              · exact .inl h5
      rw [hlink, upE]
      rcases up_cases hpl with ⟨u1, u2⟩ | ⟨u1, u2, u3⟩
      · have a3 : ¬ (dirL (L x.p) ≠ [46] ∧ (match findV (l.take n) (dirL (L x.p)) with | some o => o.k | none => 0) ≠ 2) := fun h => h.1 u1
        rw [if_pos u2, if_neg a3]
      · rw [if_neg u3, u2]
        cases findV (l.take n) (upL (L x.p)) with
        | none => rw [if_pos ⟨by rw [← u2]; exact u1, by decide⟩]
        | some o =>
          by_cases h6 : o.k = 2
          · have a4 : ¬ (upL (L x.p) ≠ [46] ∧ o.k ≠ 2) := fun h => h.2 h6
            show (if upL (L x.p) ≠ [46] ∧ o.k ≠ 2 then (14 : Int) else _) = (if o.k ≠ 2 then 14 else _)
            rw [if_neg a4, if_neg (fun h => h h6)]
          · show (if upL (L x.p) ≠ [46] ∧ o.k ≠ 2 then (14 : Int) else _) = (if o.k ≠ 2 then 14 else _)
            rw [if_pos ⟨by rw [← u2]; exact u1, h6⟩, if_pos h6]
    · rw [if_pos h2, if_pos h2]
  · rw [if_pos h1, if_pos h1]
end Go.Proofs.YtmlgmedapbeleaaGreatDoor
/-
  The walks of what is wrong with an item by itself: the program's, and the document's.
-/
namespace Go.Proofs.YtmlgmedapbeleaaGreatDoor
open Go.RowKit

/-- An item's cells. -/
structure ItAt (w : World) (b o : Nat) (x : It) : Prop where
  p : w.cell? ⟨b, o, none⟩ = some (.string x.p)
  k : w.cell? ⟨b, o + 1, none⟩ = some (.int .i64 x.k)
  m : w.cell? ⟨b, o + 2, none⟩ = some (.int .i64 x.m)
  d : w.cell? ⟨b, o + 3, none⟩ = some (.string x.d)
  s : w.cell? ⟨b, o + 4, none⟩ = some (.string x.s)
theorem ItAt.below {w w' : World} {b o B : Nat} {x : It} (h : ItAt w b o x) (hb : Below B w w') (hB : b < B) : ItAt w' b o x :=
  ⟨(hb.cell hB).trans h.p, (hb.cell hB).trans h.k, (hb.cell hB).trans h.m, (hb.cell hB).trans h.d, (hb.cell hB).trans h.s⟩

theorem mright_any (m : Int) (w : World) : Calls Tryz.prog 25 #[.int .i64 m] w fun e w' => e = .returned (.bool (decide (0 ≤ m) && decide (m ≤ 4095))) ∧ w = w' := by
  by_cases h1 : 0 ≤ m
  · by_cases h2 : m ≤ 4095
    · have HR : Hid ((decide (0 ≤ m) && decide (m ≤ 4095)) = true) := Lib.hid (by simp [h1, h2])
      go_enter Tryz.func25, Tryz.ntmps25
      go_wp2
      go_ret
      exact ⟨ret_bool HR.out.symm, rfl⟩
    · have HR : Hid ((decide (0 ≤ m) && decide (m ≤ 4095)) = false) := Lib.hid (by simp [h2])
      go_enter Tryz.func25, Tryz.ntmps25
      go_wp2
      go_ret
      exact ⟨ret_bool (by simp [h2]), rfl⟩
  · have HR : Hid ((decide (0 ≤ m) && decide (m ≤ 4095)) = false) := Lib.hid (by simp [h1])
    go_enter Tryz.func25, Tryz.ntmps25
    go_wp2
    go_ret
    exact ⟨ret_bool HR.out.symm, rfl⟩

theorem nil_empty {s : ByteArray} (h : L s = []) : s.toList.isEmpty = true := by rw [isEmpty_L, h]; rfl
theorem ne_empty {s : ByteArray} (h : L s ≠ []) : s.toList.isEmpty = false := by rw [isEmpty_L]; simpa using h
theorem nil_eq {s : ByteArray} (h : L s = []) : s = ⟨#[]⟩ := by rw [← S_L s, h]; rfl

theorem body_any (x : It) (w : World) (hk : 1 ≤ x.k ∧ x.k ≤ 3) (hd : x.d.size ≤ maxLen) :
    Calls Tryz.prog 65 #[itV x] w fun e w' => e = .returned (.int .i64 (bodyE x)) ∧ Below w.heap.size w w' := by
  unfold maxLen at hd
  obtain ⟨p, k, m, d, s⟩ := x
  have CR := Lib.hid (fun w => right_any d w (by unfold maxLen; omega))
  simp only [] at hk hd
  unfold itV
  by_cases k1 : k = 1
  · subst k1
    by_cases h1 : 4194304 < d.size
    · have HR : Hid (bodyE ⟨p, 1, m, d, s⟩ = 18) := Lib.hid (by simp [bodyE, h1])
      go_enter Tryz.func65, Tryz.ntmps65
      go_wp2
      go_ret
      exact ⟨ret_int HR.out.symm, by go_grown⟩
    · have HR : Hid (bodyE ⟨p, 1, m, d, s⟩ = 0) := Lib.hid (by simp [bodyE, h1])
      go_enter Tryz.func65, Tryz.ntmps65
      go_wp2
      go_ret
      exact ⟨ret_int HR.out.symm, by go_grown⟩
  · by_cases k2 : k = 2
    · subst k2
      clear k1
      by_cases h1 : L d = []
      · have e1 := nil_empty h1
        by_cases h2 : L s = []
        · have e2 := nil_empty h2
          have HR : Hid (bodyE ⟨p, 2, m, d, s⟩ = 0) := Lib.hid (by simp [bodyE, h1, h2])
          clear h1 h2
          go_enter Tryz.func65, Tryz.ntmps65
          go_wp2
          go_ret
          exact ⟨ret_int HR.out.symm, by go_grown⟩
        · have e2 := ne_empty h2
          have HR : Hid (bodyE ⟨p, 2, m, d, s⟩ = 43) := Lib.hid (by simp [bodyE, h2])
          clear h1 h2
          go_enter Tryz.func65, Tryz.ntmps65
          go_wp2
          go_ret
          exact ⟨ret_int HR.out.symm, by go_grown⟩
      · have e1 := ne_empty h1
        have HR : Hid (bodyE ⟨p, 2, m, d, s⟩ = 43) := Lib.hid (by simp [bodyE, h1])
        clear h1
        go_enter Tryz.func65, Tryz.ntmps65
        go_wp2
        go_ret
        exact ⟨ret_int HR.out.symm, by go_grown⟩
    · obtain rfl : k = 3 := by omega
      clear k1 k2
      by_cases h2 : L s = []
      · have e2 := nil_empty h2
        by_cases h1 : 4095 < d.size
        · have HR : Hid (bodyE ⟨p, 3, m, d, s⟩ = 18) := Lib.hid (by simp [bodyE, h1, h2])
          clear h2
          go_enter Tryz.func65, Tryz.ntmps65
          go_wp2
          go_ret
          exact ⟨ret_int HR.out.symm, by go_grown⟩
        · cases hr : rightB (L d) with
          | true =>
            rw [hr] at CR
            have HR : Hid (bodyE ⟨p, 3, m, d, s⟩ = 0) := Lib.hid (by simp [bodyE, h1, h2, hr])
            clear h2 hr
            go_enter Tryz.func65, Tryz.ntmps65
            go_wp2_with fail
            refine (CR.out _).mono ?_
            rintro e w1 ⟨rfl, rfl⟩
            go_wp2
            go_ret
            exact ⟨ret_int HR.out.symm, by go_grown⟩
          | false =>
            rw [hr] at CR
            have HR : Hid (bodyE ⟨p, 3, m, d, s⟩ = 11) := Lib.hid (by simp [bodyE, h1, h2, hr])
            clear h2 hr
            go_enter Tryz.func65, Tryz.ntmps65
            go_wp2_with fail
            refine (CR.out _).mono ?_
            rintro e w1 ⟨rfl, rfl⟩
            go_wp2
            go_ret
            exact ⟨ret_int HR.out.symm, by go_grown⟩
      · have e2 := ne_empty h2
        have HR : Hid (bodyE ⟨p, 3, m, d, s⟩ = 43) := Lib.hid (by simp [bodyE, h2])
        clear h2
        go_enter Tryz.func65, Tryz.ntmps65
        go_wp2
        go_ret
        exact ⟨ret_int HR.out.symm, by go_grown⟩
end Go.Proofs.YtmlgmedapbeleaaGreatDoor
namespace Go.Proofs.YtmlgmedapbeleaaGreatDoor
open Go.RowKit

section
variable {w w' : World} {B db mb : Nat} {ns : List Nd} {ps : List Pl} {used : Int} {n : Nd} {p : Pl}
theorem map_ne_cells {b c g : Nat} {cs : Array Value} {t : TypeId} {fr : Nat × Nat} {m : Int → Option Value} (h : MapI w b c m) (k : w.heap[g]? = some (.cells cs t fr)) : g ≠ b := fun e => by
  subst e
  obtain ⟨D, ⟨es, clock, h0, _⟩, _⟩ := h
  rw [h0] at k
  cases k
theorem Dk.push (h : Dk w B db mb ns ps used) {w5 : World} (hbox : Blk w5 db 44 #[.map (some mb), .int .i64 (((ns ++ [n]).length : Int) + 1), .int .i64 used, .int .i64 1048576])
    (hm : MapI w5 mb (ns.length + 1) (nodeM (ps ++ [p]))) (hk : ∀ b, b < w.heap.size → b ≠ db → b ≠ mb → w5.heap[b]? = w.heap[b]?) (hn : NdAt w5 B n p) (hfr : w.heap.size ≤ p.b) (hr : p.r.ownBlock = none) :
    Dk w5 B db mb (ns ++ [n]) (ps ++ [p]) used where
  box := hbox
  map := by rw [List.length_append]; exact hm
  len := by rw [List.length_append, List.length_append, h.len]; rfl
  node i n' p' h1 h2 := by
    by_cases hi : i < ns.length
    · rw [List.getElem?_append_left hi] at h1
      rw [List.getElem?_append_left (by rw [h.len]; exact hi)] at h2
      have k := h.node i n' p' h1 h2
      refine ⟨(hk _ k.box.lt (blk_ne k.box h.box (by decide)) (map_ne_cells h.map k.box)).trans k.box, k.low, ?_, ?_⟩
      · exact k.dat.keep fun b cs fr hb => hk b (Array.getElem?_eq_some_iff.1 hb).1 (fun e => by
          subst e
          have hg := h.box
          rw [Blk, hb] at hg
          simp only [Option.some.injEq, Obj.cells.injEq] at hg
          exact absurd hg.2.1 (by decide)) (map_ne_cells h.map hb)
      · exact own_keepT k.row fun b cs fr hv hb => hk b (Array.getElem?_eq_some_iff.1 hb).1 (fun e => own_ne_blk k.row h.box (by decide) (by rw [hv, e])) (map_ne_cells h.map hb)
    · have e : i = ns.length := by
        have := (List.getElem?_eq_some_iff.1 h1).1
        simp at this; omega
      subst e
      rw [List.getElem?_append_right (Nat.le_refl _), Nat.sub_self] at h1
      rw [List.getElem?_append_right (by rw [h.len]; exact Nat.le_refl _), h.len, Nat.sub_self] at h2
      cases h1
      cases h2
      exact hn
  sep i j a b h1 h2 hne := by
    have hlt : ∀ (i : Nat) (q : Pl), ps[i]? = some q → q.b ≠ p.b ∧ (q.r.ownBlock = none ∨ q.r.ownBlock ≠ p.r.ownBlock) := fun i q hq => by
      obtain ⟨m, hm⟩ : ∃ m, ns[i]? = some m := ⟨_, List.getElem?_eq_getElem (by rw [← h.len]; exact (List.getElem?_eq_some_iff.1 hq).1)⟩
      have := (h.node i m q hm hq).box.lt
      refine ⟨by omega, ?_⟩
      rw [hr]
      cases q.r.ownBlock with
      | none => exact .inl rfl
      | some g => exact .inr (by simp)
    by_cases hi : i < ps.length
    · rw [List.getElem?_append_left hi] at h1
      by_cases hj : j < ps.length
      · rw [List.getElem?_append_left hj] at h2
        exact h.sep i j a b h1 h2 hne
      · rw [List.getElem?_append_right (by omega)] at h2
        have e : j - ps.length = 0 := by
          have := (List.getElem?_eq_some_iff.1 h2).1
          simpa using this
        rw [e] at h2
        cases h2
        exact hlt i a h1
    · rw [List.getElem?_append_right (by omega)] at h1
      have e : i - ps.length = 0 := by
        have := (List.getElem?_eq_some_iff.1 h1).1
        simpa using this
      have hj : j < ps.length := by
        by_cases hj : j < ps.length
        · exact hj
        · rw [List.getElem?_append_right (by omega)] at h2
          have e2 : j - ps.length = 0 := by
            have := (List.getElem?_eq_some_iff.1 h2).1
            simpa using this
          omega
      rw [List.getElem?_append_left hj] at h2
      rw [e] at h1
      cases h1
      exact ⟨fun e3 => (hlt j b h2).1 e3.symm, .inl hr⟩
  lowd := h.lowd
  lowm := h.lowm
end
end Go.Proofs.YtmlgmedapbeleaaGreatDoor
