/-
  AstTexts returns true for every text, byte and word, where the input is of bulk at most 1048576: the tests of single texts, and Plain, are the document's. The card ties the listed variables to the program's text.
-/
import Derived.Test.YtnackmnoldkihaaGreatDoorQB5
import Derived.Test.YtnackmnoldkihaaGreatDoorQB12
import Derived.Test.YtnackmnoldkihaaGreatDoorQB11
import Derived.Test.YtnackmnoldkihaaGreatDoorQB16
import Derived.Test.YtnackmnoldkihaaGreatDoorCards
import Derived.Test.YtnackmnoldkihaaGreatDoorTie
set_option linter.unusedVariables false
set_option linter.unusedSimpArgs false
/-
  Plain, on both sides; a word without what is in its parts.
-/
namespace Go.Proofs.YtnackmnoldkihaaGreatDoor
open Go.RowKit

def plOK (l : List Pt) : Bool := l.all fun p => p.kind == 1
def plT (l : List Pt) : List UInt8 := l.flatMap fun p => L p.text
def plQ (l : List Pt) : Bool := l.any fun p => p.quoted
theorem flat_text (l : List Pt) (k : Nat) : (plT (l.take k)).length ≤ (l.map fun p => p.text.size).sum := by
  have h : ∀ m : List Pt, (plT m).length = (m.map fun p => p.text.size).sum := fun m => by
    induction m with
    | nil => rfl
    | cons p m ih => rw [plT, List.flatMap_cons, List.length_append, List.map_cons, List.sum_cons, ← ih]; rfl
  rw [h, List.map_take]
  exact nsum_take k
theorem any_snoc {α : Type} {f : α → Bool} {l : List α} {k : Nat} {x : α} (h : l[k]? = some x) : (l.take (k + 1)).any f = ((l.take k).any f || f x) := by
  rw [List.take_add_one, h, List.any_append]; simp

set_option maxHeartbeats 1000000 in
set_option maxRecDepth 100000 in
theorem plain_any (l : List Pt) (v : Value) (w : World) (d : Nat) (hl : PtsIn w w.heap.size d l v) (hsum : (l.map fun p => p.text.size).sum ≤ 1048576) :
    Calls Tryz.prog 16 #[v] w fun e w' => e = .returned (.tuple #[.string (S (bif plOK l then plT l else [])), .bool (plOK l && plQ l), .bool (plOK l)]) ∧ Below w.heap.size w w' := by
  obtain ⟨d, hl⟩ := hl.up
  obtain ⟨a, cap, rfl, hz⟩ := hl.len
  obtain ⟨n, hn⟩ : ∃ n, l.length = n := ⟨_, rfl⟩
  have HSZ : Hid (∀ k, (plT (l.take k)).length ≤ 1048576) := Lib.hid fun k => Nat.le_trans (flat_text l k) hsum
  rw [hn] at hl hz ⊢
  have HL := Lib.hid hl
  have HN := Lib.hid hn
  clear hl hn hsum
  obtain ⟨ok, hok⟩ : ∃ b, plOK l = b := ⟨_, rfl⟩
  obtain ⟨tt, htt⟩ : ∃ b, (bif ok then plT l else []) = b := ⟨_, rfl⟩
  obtain ⟨qq, hqq⟩ : ∃ b, (ok && plQ l) = b := ⟨_, rfl⟩
  rw [hok, htt, hqq]
  have HOK := Lib.hid hok
  have HTT := Lib.hid htt
  have HQQ := Lib.hid hqq
  clear hok htt hqq
  go_enter Tryz.func16, Tryz.ntmps16
  go_wp2_with fail
  go_loopw [2, 3, 9] (fun s q i W => ∃ (k : Nat) (t : ByteArray) (b : Bool), k ≤ n ∧ i = .int .i64 k ∧ s = .string t ∧ q = .bool b ∧ L t = plT (l.take k) ∧ b = plQ (l.take k) ∧ plOK (l.take k) = true ∧ Below w.heap.size w W) (fun _ _ i _ => n - (intOf i).toNat)
  case atStart => exact ⟨0, ⟨#[]⟩, false, Nat.zero_le _, rfl, rfl, rfl, rfl, rfl, rfl, Below.refl _ _⟩
  case round =>
    obtain ⟨k, t, b, hk, rfl, rfl, rfl, ht, hq, hal, hB⟩ := hrel
    have HT := Lib.hid ht
    have HQ := Lib.hid hq
    have HAL := Lib.hid hal
    have htz : t.size ≤ 1048576 := by have h := HSZ.out k; rw [← ht, L_size] at h; exact h
    have hBz := hB.size
    clear ht hq hal
    by_cases hlt : k < n
    · obtain ⟨x, hx⟩ : ∃ x, l[k]? = .some x := ⟨_, List.getElem?_eq_getElem (by rw [HN.out]; exact hlt)⟩
      obtain ⟨b1, o, c, hi, hbB, hce, hC, _⟩ := HL.out.at 29 44 Tryz.underlying29 (by kernel_rfl) hx
      have HX := Lib.hid hx
      have HX1 := Lib.hid (flat_snoc (f := fun p : Pt => L p.text) hx)
      have HX2 := Lib.hid (any_snoc (f := fun p : Pt => p.quoted) hx)
      obtain ⟨a3, c3, a4, c4, rfl, ⟨hC1, _⟩, _⟩ := hC.open
      have e0 := (hB.cell hbB).trans (hce 0 _ rfl)
      have e1 := (hB.cell hbB).trans (hce 1 _ rfl)
      have e2 := (hB.cell hbB).trans (hce 2 _ rfl)
      have e3 := (hB.cell hbB).trans (hce 3 _ rfl)
      have e4 := (hB.cell hbB).trans (hce 4 _ rfl)
      have e5 := (hB.cell hbB).trans (hce 5 _ rfl)
      have hbB' := Nat.lt_of_lt_of_le hbB hB.size
      rw [Nat.add_zero] at e0
      clear hx hce hC
      cases hk1 : (x.kind == 1) with
      | false =>
        have hk2 : (x.kind != 1) = true := by rw [bne, hk1]; rfl
        have HE : Hid (ok = false) := Lib.hid (by rw [← HOK.out, plOK]; exact all_no HX.out hk1)
        have HE2 : Hid (tt = []) := Lib.hid (by rw [← HTT.out, HE.out]; rfl)
        have HE3 : Hid (qq = false) := Lib.hid (by rw [← HQQ.out, HE.out]; rfl)
        clear hk1
        go_wp2_with fail
        go_ret3
        exact ⟨by rw [HE.out, HE2.out, HE3.out]; rfl, (by repeat' (first | (with_reducible assumption) | (with_reducible exact Below.refl _ _) | (with_reducible refine below_drewN ?_ _) | (with_reducible refine below_bytes ?_ ?_ _) | (with_reducible refine Below.alloc ?_ ?_ _) | (with_reducible refine Below.drew ?_) | (with_reducible refine Below.setCell ?_ ?_ _) | go_size))⟩
      | true =>
        have hk2 : (x.kind != 1) = false := by rw [bne, hk1]; rfl
        have HYES : Hid (plOK (l.take (k + 1)) = true) := Lib.hid (all_to HAL.out HX.out hk1)
        clear hk1
        cases b with
        | true =>
          go_wp2_with fail
          go_roundw
          case rel => exact ⟨k + 1, _, true, by omega, by go_num, rfl, rfl, by rw [plT, HX1.out, L_append, HT.out]; rfl, by rw [plQ, HX2.out]; have h := HQ.out; rw [plQ] at h; rw [← h]; rfl, HYES.out, (by repeat' (first | (with_reducible assumption) | (with_reducible exact Below.refl _ _) | (with_reducible refine below_drewN ?_ _) | (with_reducible refine below_bytes ?_ ?_ _) | (with_reducible refine Below.alloc ?_ ?_ _) | (with_reducible refine Below.drew ?_) | (with_reducible refine Below.setCell ?_ ?_ _) | go_size))⟩
          case measure => simp [intOf]; omega
        | false =>
          go_wp2_with fail
          go_roundw
          case rel => exact ⟨k + 1, _, x.quoted, by omega, by go_num, rfl, rfl, by rw [plT, HX1.out, L_append, HT.out]; rfl, by rw [plQ, HX2.out]; have h := HQ.out; rw [plQ] at h; rw [← h]; rfl, HYES.out, (by repeat' (first | (with_reducible assumption) | (with_reducible exact Below.refl _ _) | (with_reducible refine below_drewN ?_ _) | (with_reducible refine below_bytes ?_ ?_ _) | (with_reducible refine Below.alloc ?_ ?_ _) | (with_reducible refine Below.drew ?_) | (with_reducible refine Below.setCell ?_ ?_ _) | go_size))⟩
          case measure => simp [intOf]; omega
    · have hlk : l.take k = l := List.take_of_length_le (by rw [HN.out]; omega)
      have HE : Hid (ok = true) := Lib.hid (by have h := HAL.out; rw [hlk, HOK.out] at h; exact h)
      have HE2 : Hid (S tt = t) := Lib.hid (by have h := HT.out; rw [hlk] at h; rw [← HTT.out, HE.out, cond_true, ← h, S_L])
      have HE3 : Hid (qq = b) := Lib.hid (by have h := HQ.out; rw [hlk] at h; rw [← HQQ.out, HE.out, Bool.true_and, ← h])
      clear hlk
      go_wp2_with fail
      go_ret3
      exact ⟨by rw [HE.out, HE2.out, HE3.out]; rfl, hB⟩
set_option maxHeartbeats 1000000 in
set_option maxRecDepth 100000 in
theorem rplain_any (l : List Pt) (v : Value) (w : World) (d : Nat) (hl : PtsIn w w.heap.size d l v) (hsum : (l.map fun p => p.text.size).sum ≤ 1048576) :
    Calls Tryz.prog 17 #[v] w fun e w' => e = .returned (.tuple #[.string (S (bif plOK l then plT l else [])), .bool (plOK l && plQ l), .bool (plOK l)]) ∧ Below w.heap.size w w' := by
  obtain ⟨d, hl⟩ := hl.up
  obtain ⟨a, cap, rfl, hz⟩ := hl.len
  obtain ⟨n, hn⟩ : ∃ n, l.length = n := ⟨_, rfl⟩
  have HSZ : Hid (∀ k, (plT (l.take k)).length ≤ 1048576) := Lib.hid fun k => Nat.le_trans (flat_text l k) hsum
  rw [hn] at hl hz ⊢
  have HL := Lib.hid hl
  have HN := Lib.hid hn
  clear hl hn hsum
  obtain ⟨ok, hok⟩ : ∃ b, plOK l = b := ⟨_, rfl⟩
  obtain ⟨tt, htt⟩ : ∃ b, (bif ok then plT l else []) = b := ⟨_, rfl⟩
  obtain ⟨qq, hqq⟩ : ∃ b, (ok && plQ l) = b := ⟨_, rfl⟩
  rw [hok, htt, hqq]
  have HOK := Lib.hid hok
  have HTT := Lib.hid htt
  have HQQ := Lib.hid hqq
  clear hok htt hqq
  go_enter Tryz.func17, Tryz.ntmps17
  go_wp2_with fail
  go_loopw [5, 6, 7] (fun s q i W => ∃ (k : Nat) (t : ByteArray) (b : Bool), k ≤ n ∧ i = .int .i64 k ∧ s = .string t ∧ q = .bool b ∧ L t = plT (l.take k) ∧ b = plQ (l.take k) ∧ plOK (l.take k) = true ∧ Below w.heap.size w W) (fun _ _ i _ => n - (intOf i).toNat)
  case atStart => exact ⟨0, ⟨#[]⟩, false, Nat.zero_le _, rfl, rfl, rfl, rfl, rfl, rfl, Below.refl _ _⟩
  case round =>
    obtain ⟨k, t, b, hk, rfl, rfl, rfl, ht, hq, hal, hB⟩ := hrel
    have HT := Lib.hid ht
    have HQ := Lib.hid hq
    have HAL := Lib.hid hal
    have htz : t.size ≤ 1048576 := by have h := HSZ.out k; rw [← ht, L_size] at h; exact h
    have hBz := hB.size
    clear ht hq hal
    by_cases hlt : k < n
    · obtain ⟨x, hx⟩ : ∃ x, l[k]? = .some x := ⟨_, List.getElem?_eq_getElem (by rw [HN.out]; exact hlt)⟩
      obtain ⟨b1, o, c, hi, hbB, hce, hC, _⟩ := HL.out.at 41 72 Tryz.underlying41 (by kernel_rfl) hx
      have HX := Lib.hid hx
      have HX1 := Lib.hid (flat_snoc (f := fun p : Pt => L p.text) hx)
      have HX2 := Lib.hid (any_snoc (f := fun p : Pt => p.quoted) hx)
      obtain ⟨a3, c3, a4, c4, rfl, ⟨hC1, _⟩, _⟩ := hC.open
      have e0 := (hB.cell hbB).trans (hce 0 _ rfl)
      have e1 := (hB.cell hbB).trans (hce 1 _ rfl)
      have e2 := (hB.cell hbB).trans (hce 2 _ rfl)
      have e3 := (hB.cell hbB).trans (hce 3 _ rfl)
      have e4 := (hB.cell hbB).trans (hce 4 _ rfl)
      have e5 := (hB.cell hbB).trans (hce 5 _ rfl)
      have hbB' := Nat.lt_of_lt_of_le hbB hB.size
      rw [Nat.add_zero] at e0
      clear hx hce hC
      cases hk1 : (x.kind == 1) with
      | false =>
        have hk2 : (x.kind != 1) = true := by rw [bne, hk1]; rfl
        have HE : Hid (ok = false) := Lib.hid (by rw [← HOK.out, plOK]; exact all_no HX.out hk1)
        have HE2 : Hid (tt = []) := Lib.hid (by rw [← HTT.out, HE.out]; rfl)
        have HE3 : Hid (qq = false) := Lib.hid (by rw [← HQQ.out, HE.out]; rfl)
        clear hk1
        go_wp2_with fail
        go_ret3
        exact ⟨by rw [HE.out, HE2.out, HE3.out]; rfl, (by repeat' (first | (with_reducible assumption) | (with_reducible exact Below.refl _ _) | (with_reducible refine below_drewN ?_ _) | (with_reducible refine below_bytes ?_ ?_ _) | (with_reducible refine Below.alloc ?_ ?_ _) | (with_reducible refine Below.drew ?_) | (with_reducible refine Below.setCell ?_ ?_ _) | go_size))⟩
      | true =>
        have hk2 : (x.kind != 1) = false := by rw [bne, hk1]; rfl
        have HYES : Hid (plOK (l.take (k + 1)) = true) := Lib.hid (all_to HAL.out HX.out hk1)
        clear hk1
        cases b with
        | true =>
          go_wp2_with fail
          go_roundw
          case rel => exact ⟨k + 1, _, true, by omega, by go_num, rfl, rfl, by rw [plT, HX1.out, L_append, HT.out]; rfl, by rw [plQ, HX2.out]; have h := HQ.out; rw [plQ] at h; rw [← h]; rfl, HYES.out, (by repeat' (first | (with_reducible assumption) | (with_reducible exact Below.refl _ _) | (with_reducible refine below_drewN ?_ _) | (with_reducible refine below_bytes ?_ ?_ _) | (with_reducible refine Below.alloc ?_ ?_ _) | (with_reducible refine Below.drew ?_) | (with_reducible refine Below.setCell ?_ ?_ _) | go_size))⟩
          case measure => simp [intOf]; omega
        | false =>
          go_wp2_with fail
          go_roundw
          case rel => exact ⟨k + 1, _, x.quoted, by omega, by go_num, rfl, rfl, by rw [plT, HX1.out, L_append, HT.out]; rfl, by rw [plQ, HX2.out]; have h := HQ.out; rw [plQ] at h; rw [← h]; rfl, HYES.out, (by repeat' (first | (with_reducible assumption) | (with_reducible exact Below.refl _ _) | (with_reducible refine below_drewN ?_ _) | (with_reducible refine below_bytes ?_ ?_ _) | (with_reducible refine Below.alloc ?_ ?_ _) | (with_reducible refine Below.drew ?_) | (with_reducible refine Below.setCell ?_ ?_ _) | go_size))⟩
          case measure => simp [intOf]; omega
    · have hlk : l.take k = l := List.take_of_length_le (by rw [HN.out]; omega)
      have HE : Hid (ok = true) := Lib.hid (by have h := HAL.out; rw [hlk, HOK.out] at h; exact h)
      have HE2 : Hid (S tt = t) := Lib.hid (by have h := HT.out; rw [hlk] at h; rw [← HTT.out, HE.out, cond_true, ← h, S_L])
      have HE3 : Hid (qq = b) := Lib.hid (by have h := HQ.out; rw [hlk] at h; rw [← HQQ.out, HE.out, Bool.true_and, ← h])
      clear hlk
      go_wp2_with fail
      go_ret3
      exact ⟨by rw [HE.out, HE2.out, HE3.out]; rfl, hB⟩

/-- A part without what is in it. -/
def stripP (p : Pt) : Pt := .mk p.kind p.quoted p.text ByteArray.empty [] []
theorem strip_ok (l : List Pt) : plOK (l.map stripP) = plOK l := by rw [plOK, plOK, List.all_map]; rfl
theorem strip_q (l : List Pt) : plQ (l.map stripP) = plQ l := by rw [plQ, plQ, List.any_map]; rfl
theorem strip_t (l : List Pt) : plT (l.map stripP) = plT l := by rw [plT, plT, List.flatMap_map]; rfl
theorem strip_sum (l : List Pt) : ((l.map stripP).map fun p => p.text.size).sum = (l.map fun p => p.text.size).sum := by rw [List.map_map]; rfl
theorem SlOf.map {α β : Type} {w : World} {B size : Nat} {F : β → List Value → Prop} {g : α → β} {l : List α} {v : Value} (h : SlOf w B size (fun x c => F (g x) c) l v) : SlOf w B size F (l.map g) v := by
  obtain ⟨h0, cs, h1, h2, h3, h4⟩ := h
  refine ⟨by rw [List.length_map]; exact h0, cs, by rw [List.length_map]; exact h1, h2, by rw [List.length_map]; exact h3, fun i x c hx hc => ?_⟩
  rw [List.getElem?_map] at hx
  obtain ⟨y, hy, rfl⟩ := Option.map_eq_some_iff.1 hx
  exact h4 i y c hy hc
theorem infoPt : (Tryz.prog.info? 44).map (fun i => (i.zero, i.size, i.bytes)) = some (some (.agg #[.int .i64 0, .bool false, .string ByteArray.empty, .string ByteArray.empty, .slice none 0 0, .slice none 0 0]), 6, 96) := by kernel_rfl

set_option maxHeartbeats 2000000 in
set_option maxRecDepth 100000 in
theorem bytes_any (l : List Pt) (v : Value) (w : World) (d : Nat) (hl : PtsIn w w.heap.size d l v) :
    Calls Tryz.prog 18 #[v] w fun e W' => (∃ a c, e = .returned (.slice a l.length c) ∧ PtsIn W' W'.heap.size 1 (l.map stripP) (.slice a l.length c)) ∧ Below w.heap.size w W' := by
  obtain ⟨d, hl⟩ := hl.up
  obtain ⟨a, cap, rfl, hz⟩ := hl.len
  obtain ⟨n, hn⟩ : ∃ n, l.length = n := ⟨_, rfl⟩
  rw [hn] at hl hz ⊢
  have HL := Lib.hid hl
  have HN := Lib.hid hn
  clear hl hn
  go_enter Tryz.func18, Tryz.ntmps18
  go_wp2_with fail
  go_loopw [3, 8] (fun t i W => ∃ k : Nat, k ≤ n ∧ i = .int .i64 k ∧ Copied W w.heap.size [] 44 6 (fun w B (x : Pt) c => PtC w B 0 (stripP x) c) l k t ∧ Below w.heap.size w W) (fun _ i _ => n - (intOf i).toNat)
  case atStart => exact ⟨0, Nat.zero_le _, rfl, Copied.start _ _ _ _ _ _ _, Below.refl _ _⟩
  case round =>
    obtain ⟨k, hk, rfl, hcp, hB⟩ := hrel
    have hBz := hB.size
    by_cases hlt : k < n
    · obtain ⟨x, hx⟩ : ∃ y, l[k]? = .some y := ⟨_, List.getElem?_eq_getElem (by rw [HN.out]; exact hlt)⟩
      have HX := Lib.hid hx
      obtain ⟨b, o, c, hi, hbB, hce, hC, _⟩ := HL.out.at 29 44 Tryz.underlying29 (by kernel_rfl) hx
      obtain ⟨a1, c1, a2, c2, rfl, ⟨hxz, hxz2⟩, _⟩ := hC.open
      have HXZ := Lib.hid hxz
      obtain ⟨cs, q1, q2, q3, q4⟩ := hcp
      obtain ⟨sa, sc, rfl⟩ := own_shape q3
      have Q1 := Lib.hid q1
      have Q2 := Lib.hid q2
      have Q3 := Lib.hid q3
      have Q4 := Lib.hid q4
      have HRW : Hid (∀ b, (Value.slice sa k sc).ownBlock = some b → w.heap.size ≤ b ∧ b < wr.heap.size) := Lib.hid fun b e => World.ownsRow.lt Q3.out _ e
      have e0 := (hB.cell hbB).trans (hce 0 _ rfl)
      have e1 := (hB.cell hbB).trans (hce 1 _ rfl)
      have e2 := (hB.cell hbB).trans (hce 2 _ rfl)
      have e3 := (hB.cell hbB).trans (hce 3 _ rfl)
      have e4 := (hB.cell hbB).trans (hce 4 _ rfl)
      have e5 := (hB.cell hbB).trans (hce 5 _ rfl)
      have hbB' := Nat.lt_of_lt_of_le hbB hB.size
      rw [Nat.add_zero] at e0
      clear hx hce hC hxz hxz2 q1 q2 q3 q4
      go_wp2_with (at_builtin; go_must ((refine append_sl rfl _ _ 29 rfl w.heap.size 44 Tryz.underlying29 infoPt rfl (by decide) (v := .slice sa k sc) (n := k) (xs := cs.flatten) rfl (own_below Q3.out (by repeat' (first | (with_reducible assumption) | (with_reducible exact Below.refl _ _) | (with_reducible refine below_drewN ?_ _) | (with_reducible refine below_bytes ?_ ?_ _) | (with_reducible refine Below.alloc ?_ ?_ _) | (with_reducible refine Below.drew ?_) | (with_reducible refine Below.setCell ?_ ?_ _) | go_size))) (m := 1) (news := [.int .i64 x.kind, .bool x.quoted, .string x.text, .string ⟨#[]⟩, .slice none 0 0, .slice none 0 0]) rfl (sl_made_at _ #[.int .i64 x.kind, .bool x.quoted, .string x.text, .string ⟨#[]⟩, .slice none 0 0, .slice none 0 0] _ 1 6 rfl (by unfold maxLen; omega) (by simp)) (by omega) (by intro u hu; simp at hu; rcases hu with rfl | rfl | rfl | rfl | rfl | rfl <;> rfl) (by omega) (by simp; omega) ?_); intro g1 cap1 w5 hown hgrow hlie hglt; have HB5 := Lib.hid (Below.grown (B := w.heap.size) (a := w) (hB.trans (Below.mono (B := wr.heap.size) (by repeat' (first | (with_reducible assumption) | (with_reducible exact Below.refl _ _) | (with_reducible refine below_drewN ?_ _) | (with_reducible refine below_bytes ?_ ?_ _) | (with_reducible refine Below.alloc ?_ ?_ _) | (with_reducible refine Below.drew ?_) | (with_reducible refine Below.setCell ?_ ?_ _) | go_size)) hBz)) hgrow (by simp; omega) (fun k e => (HRW.out k e).1)); have HP5 := Lib.hid (Copied.push (F := fun w B (x : Pt) c => PtC w B 0 (stripP x) c) (l := l) (x := x) hgrow hlie hown (fun h x c => h.ptc) (w := wr) (by repeat' (first | (with_reducible assumption) | (with_reducible exact Below.refl _ _) | (with_reducible refine below_drewN ?_ _) | (with_reducible refine below_bytes ?_ ?_ _) | (with_reducible refine Below.alloc ?_ ?_ _) | (with_reducible refine Below.drew ?_) | (with_reducible refine Below.setCell ?_ ?_ _) | go_size)) Q1.out Q2.out Q4.out HX.out rfl ⟨HXZ.out, (Nat.zero_le _ : (ByteArray.empty).size ≤ bigN), _, _, rfl, pts_nil _ _ _, nds_nil _ _ _⟩); clear hown hgrow hlie hglt))
      go_roundw
      case rel => exact ⟨k + 1, by omega, by go_num, HP5.out, HB5.out⟩
      case measure => simp [intOf]; omega
    · obtain rfl : k = n := by omega
      have HCP := Lib.hid hcp
      obtain ⟨cs, q1, q2, q3, q4⟩ := hcp
      obtain ⟨sa, sc, rfl⟩ := own_shape q3
      clear q1 q2 q3 q4
      go_wp2_with fail
      go_ret
      refine ⟨⟨_, _, rfl, ?_⟩, hB⟩
      have hd := Copied.done (F := fun w B (x : Pt) c => PtC w B 0 (stripP x) c) (by rw [HN.out]; exact HCP.out) (by rw [HN.out]; exact hz) (fun h x c => h.ptc) (by simp)
      rw [PtsIn.succ]
      exact (hd.map (g := stripP) (F := fun x c => PtC _ _ 0 x c)).imp (fun _ hs => hs.off) fun p _ c hp => hp.keep fun _ _ _ _ hs => hs.off
end Go.Proofs.YtnackmnoldkihaaGreatDoor
/-
  The walk of the law on texts.
-/
namespace Go.Proofs.YtnackmnoldkihaaGreatDoor
open Go.RowKit

/-- A test of a text: what it returns wherever it comes behind w. -/
def Tests (w : World) (f : Nat) (args : Array Value) (b : Bool) : Prop := ∀ W, Below w.heap.size w W → Calls Tryz.prog f args W fun e w' => e = .returned (.bool b) ∧ Below W.heap.size W w'

set_option maxHeartbeats 4000000 in
set_option maxRecDepth 100000 in
theorem texts_law (s : ByteArray) (x1 : Int) (hx : 0 ≤ x1 ∧ x1 ≤ 255) (l : List Pt) (v : Value) (w : World) (d : Nat) (hv : Held w) (hl : PtsIn w w.heap.size d l v) (hsum : (l.map fun p => p.text.size).sum ≤ 1048576) :
    Calls Tryz.prog 5 #[.string s, .int .u8 x1, v] w fun e w' => e = .returned (.bool true) ∧ Below w.heap.size w w' := by
  obtain ⟨c, rfl⟩ : ∃ c : UInt8, x1 = ((c.toNat : Nat) : Int) := ⟨_, u8_of hx.1 (by omega)⟩
  obtain ⟨a, cap, rfl, hz⟩ := hl.shape
  have CA := Lib.hid (anchor_any w hv hv)
  have CP : Hid (∀ W, Below w.heap.size w W → Calls Tryz.prog 16 #[.slice a l.length cap] W fun e w' => e = .returned (.tuple #[.string (S (bif plOK l then plT l else [])), .bool (plOK l && plQ l), .bool (plOK l)]) ∧ Below W.heap.size W w') := Lib.hid fun W hW => plain_any l _ W d (hl.later hW) hsum
  have CY : Hid (∀ W, Below w.heap.size w W → Calls Tryz.prog 18 #[.slice a l.length cap] W fun e w' => (∃ a c, e = .returned (.slice a l.length c) ∧ PtsIn w' w'.heap.size 1 (l.map stripP) (.slice a l.length c)) ∧ Below W.heap.size W w') := Lib.hid fun W hW => bytes_any l _ W d (hl.later hW)
  have CW : Hid (∀ (W : World) (v : Value), PtsIn W W.heap.size 1 (l.map stripP) v → Calls Tryz.prog 14 #[v] W fun e w' => (∃ a c, e = .returned (.slice a l.length c) ∧ PtsIn w' w'.heap.size 1 (l.map stripP) (.slice a l.length c)) ∧ Below W.heap.size W w') := Lib.hid fun W v h => by
    have := wordm_any (l.map stripP) v W 1 h
    rw [List.length_map] at this
    exact this
  have CR : Hid (∀ (W : World) (v : Value), PtsIn W W.heap.size 1 (l.map stripP) v → Calls Tryz.prog 17 #[v] W fun e w' => e = .returned (.tuple #[.string (S (bif plOK l then plT l else [])), .bool (plOK l && plQ l), .bool (plOK l)]) ∧ Below W.heap.size W w') := Lib.hid fun W v h => by
    have := rplain_any (l.map stripP) v W 1 h (by rw [strip_sum]; exact hsum)
    rw [strip_ok, strip_t, strip_q] at this
    exact this
  have B1 : Hid (Tests w 19 #[.int .u8 ((c.toNat : Nat) : Int)] (bareB c)) := Lib.hid fun W _ => (bare_any c W).mono fun e w' h => ⟨h.1, by first | exact h.2 | (rw [h.2]; exact Below.refl _ _) | (rw [← h.2]; exact Below.refl _ _)⟩
  have B2 : Hid (Tests w 20 #[.int .u8 ((c.toNat : Nat) : Int)] (bareB c)) := Lib.hid fun W _ => (rbare_any c W).mono fun e w' h => ⟨h.1, by first | exact h.2 | (rw [h.2]; exact Below.refl _ _) | (rw [← h.2]; exact Below.refl _ _)⟩
  obtain ⟨n, hn⟩ : ∃ n, l.length = n := ⟨_, rfl⟩
  rw [hn] at CP CY CW hz ⊢
  obtain ⟨tt, htt⟩ : ∃ t, S (bif plOK l then plT l else []) = t := ⟨_, rfl⟩
  obtain ⟨qq, hqq⟩ : ∃ b, (plOK l && plQ l) = b := ⟨_, rfl⟩
  obtain ⟨ok, hok⟩ : ∃ b, plOK l = b := ⟨_, rfl⟩
  rw [htt, hqq, hok] at CP CR
  obtain ⟨bb, hbb⟩ : ∃ b, bareB c = b := ⟨_, rfl⟩
  rw [hbb] at B1 B2
  clear hv hl hn hsum htt hqq hok hbb hx
  have gt : (tt.toList != tt.toList) = false := by simp
  have gt2 : (tt.toList == tt.toList) = true := by simp
  have gq : (qq != qq) = false := by simp
  have go : (ok != ok) = false := by simp
  have gb : (bb != bb) = false := by simp
  go_enter Tryz.func5, Tryz.ntmps5
  go_wp2_with fail
  refine CA.out.mono ?_
  rintro e w1 ⟨rfl, hB1⟩
  by_cases h5 : 500 < s.size
  · have g5 : decide ((500 : Int) < (s.size : Int)) = true := by simp; omega
    go_wp2_with fail
    go_ret
    exact ⟨rfl, hB1⟩
  · have g5 : decide ((500 : Int) < (s.size : Int)) = false := by simp; omega
    by_cases h6 : 50 < n
    · have g6 : decide ((50 : Int) < (n : Int)) = true := by simp; omega
      go_wp2_with fail
      go_ret
      exact ⟨rfl, hB1⟩
    · have g6 : decide ((50 : Int) < (n : Int)) = false := by simp; omega
      have hsz : s.size ≤ maxLen := by unfold maxLen; omega
      have hsz2 : s.size ≤ 1048576 := by omega
      have T1 : Hid (Tests w 21 #[.string s] (nameL (L s))) := Lib.hid fun W _ => (name_any s W hsz).mono fun e w' h => ⟨h.1, by first | exact h.2 | (rw [h.2]; exact Below.refl _ _) | (rw [← h.2]; exact Below.refl _ _)⟩
      have T2 : Hid (Tests w 22 #[.string s] (nameL (L s))) := Lib.hid fun W _ => (rname_any s W hsz).mono fun e w' h => ⟨h.1, by first | exact h.2 | (rw [h.2]; exact Below.refl _ _) | (rw [← h.2]; exact Below.refl _ _)⟩
      have T3 : Hid (Tests w 23 #[.string s] (numB (L s))) := Lib.hid fun W _ => (number_any s W hsz).mono fun e w' h => ⟨h.1, by first | exact h.2 | (rw [h.2]; exact Below.refl _ _) | (rw [← h.2]; exact Below.refl _ _)⟩
      have T4 : Hid (Tests w 24 #[.string s] (numB (L s))) := Lib.hid fun W _ => (rnumber_any s W hsz).mono fun e w' h => ⟨h.1, by first | exact h.2 | (rw [h.2]; exact Below.refl _ _) | (rw [← h.2]; exact Below.refl _ _)⟩
      have T5 : Hid (Tests w 25 #[.string s] (specB (L s))) := Lib.hid fun W _ => (special_any s W).mono fun e w' h => ⟨h.1, by first | exact h.2 | (rw [h.2]; exact Below.refl _ _) | (rw [← h.2]; exact Below.refl _ _)⟩
      have T6 : Hid (Tests w 26 #[.string s] (specB (L s))) := Lib.hid fun W _ => (rspecial_any s W).mono fun e w' h => ⟨h.1, by first | exact h.2 | (rw [h.2]; exact Below.refl _ _) | (rw [← h.2]; exact Below.refl _ _)⟩
      have T7 : Hid (Tests w 27 #[.string s] (oneB reservedWs (L s))) := Lib.hid fun W _ => (reserved_any s W).mono fun e w' h => ⟨h.1, by first | exact h.2 | (rw [h.2]; exact Below.refl _ _) | (rw [← h.2]; exact Below.refl _ _)⟩
      have T8 : Hid (Tests w 28 #[.string s] (oneB reservedWs (L s))) := Lib.hid fun W _ => (rreserved_any s W).mono fun e w' h => ⟨h.1, by first | exact h.2 | (rw [h.2]; exact Below.refl _ _) | (rw [← h.2]; exact Below.refl _ _)⟩
      have T9 : Hid (Tests w 29 #[.string s] (oneB opWs (L s))) := Lib.hid fun W _ => (op_any s W).mono fun e w' h => ⟨h.1, by first | exact h.2 | (rw [h.2]; exact Below.refl _ _) | (rw [← h.2]; exact Below.refl _ _)⟩
      have T10 : Hid (Tests w 30 #[.string s] (oneB opWs (L s))) := Lib.hid fun W _ => (rop_any s W).mono fun e w' h => ⟨h.1, by first | exact h.2 | (rw [h.2]; exact Below.refl _ _) | (rw [← h.2]; exact Below.refl _ _)⟩
      have T11 : Hid (Tests w 31 #[.string s] (sumB (L s))) := Lib.hid fun W _ => (sum_any s W hsz).mono fun e w' h => ⟨h.1, by first | exact h.2 | (rw [h.2]; exact Below.refl _ _) | (rw [← h.2]; exact Below.refl _ _)⟩
      have T12 : Hid (Tests w 32 #[.string s] (sumB (L s))) := Lib.hid fun W _ => (rsum_any s W hsz).mono fun e w' h => ⟨h.1, by first | exact h.2 | (rw [h.2]; exact Below.refl _ _) | (rw [← h.2]; exact Below.refl _ _)⟩
      obtain ⟨k1, h1⟩ : ∃ b, nameL (L s) = b := ⟨_, rfl⟩
      obtain ⟨k2, h2⟩ : ∃ b, numB (L s) = b := ⟨_, rfl⟩
      obtain ⟨k3, h3⟩ : ∃ b, specB (L s) = b := ⟨_, rfl⟩
      obtain ⟨k4, h4⟩ : ∃ b, oneB reservedWs (L s) = b := ⟨_, rfl⟩
      obtain ⟨k5, h5'⟩ : ∃ b, oneB opWs (L s) = b := ⟨_, rfl⟩
      obtain ⟨k6, h6'⟩ : ∃ b, sumB (L s) = b := ⟨_, rfl⟩
      rw [h1] at T1 T2
      rw [h2] at T3 T4
      rw [h3] at T5 T6
      rw [h4] at T7 T8
      rw [h5'] at T9 T10
      rw [h6'] at T11 T12
      clear h1 h2 h3 h4 h5' h6' hsz hsz2
      have z1 : (k1 == k1) = true := by simp
      have z2 : (k2 == k2) = true := by simp
      have z3 : (k3 == k3) = true := by simp
      have z4 : (k4 == k4) = true := by simp
      have z5 : (k5 == k5) = true := by simp
      have z6 : (k6 == k6) = true := by simp
      go_wp2_with fail
      refine (CP.out _ hB1).mono ?_
      rintro e w2 ⟨rfl, hb0⟩
      have hB2 : Below w.heap.size w w2 := since hb0 hB1
      clear hb0
      go_wp2_with fail
      refine (CY.out _ hB2).mono ?_
      rintro e w3 ⟨⟨a3, c3, rfl, hx3⟩, hb0⟩
      have HX3 := Lib.hid hx3
      have hB3 : Below w.heap.size w w3 := since hb0 hB2
      clear hb0 hx3
      go_wp2_with fail
      refine (CW.out _ _ HX3.out).mono ?_
      rintro e w4 ⟨⟨a4, c4, rfl, hx4⟩, hb0⟩
      have HX4 := Lib.hid hx4
      have hB4 : Below w.heap.size w w4 := since hb0 hB3
      clear hb0 hx4
      go_wp2_with fail
      refine (CR.out _ _ HX4.out).mono ?_
      rintro e w5 ⟨rfl, hb0⟩
      have hB5 : Below w.heap.size w w5 := since hb0 hB4
      clear hb0
      go_wp2_with fail
      refine (B1.out _ hB5).mono ?_
      rintro e y1 ⟨rfl, hb0⟩
      have hy1 : Below w.heap.size w y1 := since hb0 hB5
      clear hb0
      go_wp2_with fail
      refine (B2.out _ hy1).mono ?_
      rintro e y2 ⟨rfl, hb0⟩
      have hy2 : Below w.heap.size w y2 := since hb0 hy1
      clear hb0
      go_wp2_with fail
      refine (T1.out _ hy2).mono ?_
      rintro e y3 ⟨rfl, hb0⟩
      have hy3 : Below w.heap.size w y3 := since hb0 hy2
      clear hb0
      go_wp2_with fail
      refine (T2.out _ hy3).mono ?_
      rintro e y4 ⟨rfl, hb0⟩
      have hy4 : Below w.heap.size w y4 := since hb0 hy3
      clear hb0
      go_wp2_with fail
      refine (T3.out _ hy4).mono ?_
      rintro e y5 ⟨rfl, hb0⟩
      have hy5 : Below w.heap.size w y5 := since hb0 hy4
      clear hb0
      go_wp2_with fail
      refine (T4.out _ hy5).mono ?_
      rintro e y6 ⟨rfl, hb0⟩
      have hy6 : Below w.heap.size w y6 := since hb0 hy5
      clear hb0
      go_wp2_with fail
      refine (T5.out _ hy6).mono ?_
      rintro e y7 ⟨rfl, hb0⟩
      have hy7 : Below w.heap.size w y7 := since hb0 hy6
      clear hb0
      go_wp2_with fail
      refine (T6.out _ hy7).mono ?_
      rintro e y8 ⟨rfl, hb0⟩
      have hy8 : Below w.heap.size w y8 := since hb0 hy7
      clear hb0
      go_wp2_with fail
      refine (T7.out _ hy8).mono ?_
      rintro e y9 ⟨rfl, hb0⟩
      have hy9 : Below w.heap.size w y9 := since hb0 hy8
      clear hb0
      go_wp2_with fail
      refine (T8.out _ hy9).mono ?_
      rintro e y10 ⟨rfl, hb0⟩
      have hy10 : Below w.heap.size w y10 := since hb0 hy9
      clear hb0
      go_wp2_with fail
      refine (T9.out _ hy10).mono ?_
      rintro e y11 ⟨rfl, hb0⟩
      have hy11 : Below w.heap.size w y11 := since hb0 hy10
      clear hb0
      go_wp2_with fail
      refine (T10.out _ hy11).mono ?_
      rintro e y12 ⟨rfl, hb0⟩
      have hy12 : Below w.heap.size w y12 := since hb0 hy11
      clear hb0
      go_wp2_with fail
      refine (T11.out _ hy12).mono ?_
      rintro e y13 ⟨rfl, hb0⟩
      have hy13 : Below w.heap.size w y13 := since hb0 hy12
      clear hb0
      go_wp2_with fail
      refine (T12.out _ hy13).mono ?_
      rintro e y14 ⟨rfl, hb0⟩
      have hy14 : Below w.heap.size w y14 := since hb0 hy13
      clear hb0
      go_wp2_with fail
      go_ret
      exact ⟨rfl, hy14⟩
end Go.Proofs.YtnackmnoldkihaaGreatDoor
namespace Go.Proofs.YtnackmnoldkihaaGreatDoor
open Go.ChangeShapes Go.WideShapes Go.ChangeAt Go.RowKit

theorem text_le {w : World} {B n : Nat} {l : List Pt} {v : Value} (h : PtsIn w B n l v) (hw : wtW n l ≤ bigN) : (l.map fun p => p.text.size).sum ≤ 1048576 := by
  cases n with
  | zero =>
    rw [PtsIn] at h
    obtain rfl := h.zero
    exact Nat.zero_le _
  | succ n => exact Nat.le_trans (text_sum n l) hw

set_option maxRecDepth 100000 in
theorem astTexts_reads (os : Os) {H : Type} (enc : TypeId × Value → H) : ∃ places, DataW.whole enc Tryz.prog ((World.laidAll Tryz.prog os Rows.astTextsUptoRow.laid).forCall (fun _ _ => 0) ⟨#[], #[.string ⟨#[]⟩, .int .u8 0, .slice none 0 0], []⟩).memory Tryz.f5.params.toList Rows.astTextsSpec.vars false (#[.string ⟨#[]⟩, .int .u8 0, .slice none 0 0] : Array Value).toList 8 = some ([.lit (.string []), .lit (.int .u8 0), .nil], [], places) :=
  ⟨[], by kernel_rfl⟩
set_option maxRecDepth 100000 in
theorem astTexts_lifted (os : Os) (started : os.Started) (H : Type) (enc : TypeId × Value → H) (F : Stop.Interp) :
    ReturnsInHanded {} Tryz.checked os 5 .any ((Rows.OpenSpec.upto Rows.astTextsSpec).preRow enc Tryz.prog Tryz.f5 Rows.astTextsUptoRow.domain false Rows.astTextsUptoRow.laid) (((Rows.OpenSpec.upto Rows.astTextsSpec).at F).post enc Tryz.prog Tryz.f5 false true false false) := by
  obtain ⟨places, hx⟩ := astTexts_reads os enc
  refine returnsInHanded_of_row (C := Tryz.checked) (s := Rows.OpenSpec.upto Rows.astTextsSpec) Tryz.own started (by kernel_rfl) Tryz.func5
    (witness_row_shaped (enc := enc) (C := Tryz.checked) (os := os) false (World.laidAll Tryz.prog os Rows.astTextsUptoRow.laid) #[.string ⟨#[]⟩, .int .u8 0, .slice none 0 0] (World.laidAll_os _ _ _) (World.shaped_of_ZipB (by kernel_rfl) (by kernel_rfl)) (by kernel_rfl)
      (OpenSpec.preRow_of_cond 8 hx (by kernel_rfl) (fun k hk => by cases hk; kernel_rfl) (by kernel_rfl) (by rw [MakeChecks.laidMetH_plain _ _ _ (by kernel_rfl)]; exact laidMet_laidAll _ (by kernel_rfl) (by kernel_rfl)))) ?_
  intro W base args ds gs before hval0 hW _ hcond _ hL hsh _
  have hval : ∀ (j : Nat) t v, Tryz.f5.params[j]? = some t → args[j]? = some v → Value.okWide Tryz.prog W .any base t v := hval0
  have hW' := hW
  obtain ⟨p, q, hA0, hV, rfl, _, _⟩ := hW
  have hA : DataW.TrodAll enc Tryz.prog W 0 (fun _ => true) true Tryz.f5.params.toList args.toList ds p := hA0
  have hAk := hA
  obtain ⟨rfl, rfl⟩ := trodVars_none hV
  simp only [List.append_nil] at hW'
  have hlt : ∀ x ∈ p, x.block < W.heap.size := fun x hx => by simpa using hW'.lt x hx
  rw [Tryz.params5] at hA hval
  obtain ⟨v0, vs0, d0, ds0, p0, q0, hargs, rfl, rfl, h0, r0⟩ := trodAll_cons hA
  obtain ⟨v1, vs1, d1, ds1, p1, q1, rfl, rfl, rfl, h1, r1⟩ := trodAll_cons r0
  obtain ⟨v2, vs2, d2, ds2, p2, q2, rfl, rfl, rfl, h2, r2⟩ := trodAll_cons r1
  obtain ⟨rfl, rfl, rfl⟩ := trodAll_nil r2
  obtain rfl : args = #[v0, v1, v2] := by cases args; simp_all
  have hbk := of_decide_eq_true (hcond _ rfl)
  simp only [Rows.uptoBulkAll, List.append_nil, List.nil_append, List.cons_append, Nat.add_zero] at hbk
  obtain ⟨s0, rfl, rfl, rfl, ws0⟩ := ChangeMaps.open_string Tryz.underlying9 (hval 0 9 v0 rfl rfl) h0
  obtain ⟨x1, rfl, rfl, rfl, wx1⟩ := open_int Tryz.underlying5 (hval 1 5 v1 rfl rfl) h1
  have b1 : 0 ≤ x1 ∧ x1 ≤ 255 := by simpa [Lit.wf, IntKind.min, IntKind.max, IntKind.signed, IntKind.bits] using wx1
  obtain ⟨dp2, l2, hN2, wN2⟩ := open_parts (hval 2 29 v2 rfl rfl) h2 (fun x hx => hlt x (by simp [hx])) (by unfold bigN; omega)
  clear hA0 hval0
  refine (texts_law s0 x1 b1 l2 v2 W dp2 (held_of_shape hsh) hN2 (text_le hN2 wN2)).mono fun e W' ⟨he, hb⟩ => ?_
  subst he
  exact ⟨_, rfl, law_post rfl rfl rfl (by kernel_rfl) hW' hAk hb⟩

theorem astTexts_row : Rows.AstTextsUptoSaid :=
  OpenClaim.holds_of_cond 5 Tryz.f5 rfl rfl rfl rfl rfl rfl rfl ⟨rfl, rfl, rfl, rfl, rfl⟩ rfl rfl rfl rfl rfl (by kernel_rfl) Tryz.func5 (by kernel_rfl)
    (of_decide_eq_true (by kernel_rfl)) (by unfold Func.isWrapper; first | (rw [if_pos (by decide +kernel)]; kernel_rfl) | (rw [if_neg (by decide +kernel)]; exact ⟨rfl, rfl⟩))
    (fun os started H enc _ F => by rw [OpenClaim.pre_eq_preRow]; exact astTexts_lifted os started H enc F)

theorem astTexts_holds : Rows.AstTextsUptoCardSaid :=
  Claim7.holds_tied_plain_at .later [] _ _ _ _ astTexts_row (fun _ h => by cases h) (by kernel_rfl) (fun _ h => by cases h) astTextsUpto_row_tie rfl ⟨rfl, rfl⟩ (by kernel_rfl) rfl
    (fun f fn hf hfn => by
      obtain rfl : f = 5 := Option.some.inj ((show Tryz.prog.funcNamed "seabag/seabaglaw14.AstTexts" = some 5 by kernel_rfl).symm.trans hf) |>.symm
      obtain rfl : fn = Tryz.f5 := (Option.some.inj (Tryz.func5.symm.trans hfn)).symm
      exact ⟨by kernel_rfl, fun j t ht => by
        rw [Tryz.params5] at ht
        have hm : t ∈ [9, 5, 29] := by simpa using Array.mem_of_getElem? ht
        have hall : ([9, 5, 29].all fun u => !Tryz.prog.wantsStandIn u) = true := by kernel_rfl
        exact (show Tryz.prog.wantsStandIn t = false by simpa using List.all_eq_true.1 hall t hm)⟩)
    (by kernel_rfl)

#print axioms astTexts_holds
end Go.Proofs.YtnackmnoldkihaaGreatDoor
