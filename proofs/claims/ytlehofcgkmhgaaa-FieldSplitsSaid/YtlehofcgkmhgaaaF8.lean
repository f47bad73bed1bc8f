/-
  Text, Join: the walks.
-/
import Derived.Test.YtlehofcgkmhgaaaF7
namespace Go.Proofs.Ytlehofcgkmhgaaa
open Go.RowKit

def textL (f : List Pc) : List UInt8 := f.flatMap fun p => L p.t
theorem textL_snoc {l : List Pc} {k : Nat} {x : Pc} (h : l[k]? = some x) : textL (l.take (k + 1)) = textL (l.take k) ++ L x.t := by
  obtain ⟨hk, rfl⟩ := List.getElem?_eq_some_iff.1 h
  unfold textL
  rw [List.take_succ_eq_append_getElem hk, List.flatMap_append]
  simp
theorem textL_le (l : List Pc) (k : Nat) : (textL (l.take k)).length ≤ (textL l).length := by
  conv => rhs; rw [← List.take_append_drop k l]
  unfold textL
  rw [List.flatMap_append, List.length_append]
  omega
/-- A piece of a field. -/
theorem pc_at {w : World} {B : Nat} {v : Value} {l : List Pc} (h : Sl w B 2 v l.length (l.flatMap pcC)) {k : Nat} {x : Pc} (hx : l[k]? = some x) (i : Int) (hi : i = k) :
    ∃ b o, (∀ w' : World, (Instr.indexAt 30 v (.int .i64 i)).run Try.prog w' = .ok (.pointer (some ⟨b, o, none⟩)) w') ∧ b < B ∧ w.cell? ⟨b, o, none⟩ = some (.string x.t) ∧ w.cell? ⟨b, o + 1, none⟩ = some (.bool x.q) := by
  subst hi
  have hk := (List.getElem?_eq_some_iff.1 hx).1
  obtain ⟨a, cap, b, off, rfl, _, _, h1, h2, h3⟩ := h.open (P := Try.prog) 30 45 Try.underlying30 (by kernel_rfl)
  have g := flat_get pcC 2 pcC_len l k x hx
  refine ⟨b, off + k * 2, fun w' => h1 k w' hk, by omega, ?_, ?_⟩
  · rw [show off + k * 2 = off + (k * 2 + 0) by omega, h3 _ (by omega), g 0 (by omega)]; rfl
  · rw [show off + k * 2 + 1 = off + (k * 2 + 1) by omega, h3 _ (by omega), g 1 (by omega)]; rfl

set_option maxHeartbeats 1000000 in
theorem text_any (f : List Pc) (v : Value) (w : World) (hl : Sl w w.heap.size 2 v f.length (f.flatMap pcC)) (hz : (textL f).length ≤ 140737488355328) :
    Calls Try.prog 8 #[v] w fun e w' => e = .returned (.string (S (textL f))) ∧ Below w.heap.size w w' := by
  obtain ⟨n, hnl⟩ : ∃ n, n = f.length := ⟨_, rfl⟩
  rw [← hnl] at hl
  have hnm := hl.len
  unfold maxLen at hnm
  obtain ⟨a, cap, rfl⟩ : ∃ a cap, v = .slice a n cap := by
    obtain ⟨_, a, cap, h, _⟩ := hl
    exact ⟨a, cap, h⟩
  have HL := Lib.hid hl
  have HN := Lib.hid hnl
  have HZ := Lib.hid hz
  clear hl hnl hz
  go_enter Try.func8, Try.ntmps8
  go_wp2_with fail
  go_loopw [8] (fun i wr => ∃ k : Nat, k ≤ n ∧ i = .int .i64 k ∧ Bld wr w.heap.size w.heap.size (textL (f.take k)) ∧ Below w.heap.size w wr ∧ w.heap.size < wr.heap.size) (fun i _ => n - (intOf i).toNat)
  case atStart => exact ⟨0, Nat.zero_le _, rfl, Bld.fresh w, Below.alloc (Below.refl _ _) (Nat.le_refl _) _, by simp⟩
  case round =>
    obtain ⟨k, hk, rfl, hbl, hb, hsz⟩ := hrel
    obtain ⟨wo, rfl⟩ : ∃ wo : World, wo = wr := ⟨_, rfl⟩
    by_cases hlt : k < n
    · obtain ⟨x, hx⟩ : ∃ x, f[k]? = some x := ⟨_, List.getElem?_eq_getElem (by rw [← HN.out]; omega)⟩
      have hl1 := HL.out.below hb
      rw [HN.out] at hl1
      obtain ⟨b1, o1, i1, hb1, c1, c2⟩ := pc_at hl1 hx (k : Int) rfl
      rw [← HN.out] at i1
      have hb1' : b1 < wo.heap.size := by omega
      have hsn := textL_snoc hx
      have hle := textL_le f (k + 1)
      rw [hsn, List.length_append, L_size] at hle
      have HSN := Lib.hid hsn
      have hle2 := Nat.le_trans hle HZ.out
      obtain ⟨t, q⟩ := x
      have HB := Lib.hid hb
      have CWr := Lib.hid (write_any w.heap.size w.heap.size (textL (f.take k)) t (wo.alloc (.cells #[.string t, .bool q] 45)) (hbl.below (Below.alloc (Below.refl _ _) (Nat.le_refl _) _)) hle2 (by simp; omega))
      clear hl1 hx hsn hle hle2 hb hbl
      go_wp2_with fail
      refine CWr.out.mono ?_
      rintro e w2 ⟨rfl, hbl2, hb2⟩
      have HB2 := Lib.hid ((HB.out.alloc HB.out.size _).trans hb2)
      have HBL := Lib.hid hbl2
      have hsz2 : w.heap.size < w2.heap.size := by have := hb2.size; simp at this; omega
      clear hbl2 hb2
      go_wp2
      go_roundw
      case rel => exact ⟨k + 1, by omega, by go_num, by rw [HSN.out]; exact HBL.out, HB2.out, hsz2⟩
      case measure => simp [intOf]; omega
    · obtain rfl : k = n := by omega
      have HB := Lib.hid hb
      rw [List.take_of_length_le (by rw [← HN.out]; omega)] at hbl
      have CS := Lib.hid (Try.Builder_String_any w.heap.size w.heap.size (textL f) wo hbl hb.size)
      clear hbl hb
      go_wp2_with fail
      refine CS.out.mono ?_
      rintro e w2 ⟨rfl, hb2⟩
      go_wp2
      go_ret
      exact ⟨rfl, HB.out.trans hb2⟩
end Go.Proofs.Ytlehofcgkmhgaaa
