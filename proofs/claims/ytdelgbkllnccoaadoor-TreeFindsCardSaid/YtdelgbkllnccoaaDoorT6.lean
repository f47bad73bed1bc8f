/-
  The walks of up, slashless, Tops, Bytes, both Contents.
-/
import Derived.Test.YtdelgbkllnccoaaDoorT5
namespace Go.Proofs.YtdelgbkllnccoaaDoor
open Go.RowKit

theorem eq47' {c : UInt8} (h : c = 47) : (((c.toNat : Nat) : Int) == 47) = true := eq47 h
theorem lastTo_le (l : List UInt8) (n : Nat) : lastTo l n < n := (lastTo_lt l n).2

theorem up_any (s : ByteArray) (w : World) (hs : s.size ≤ 100000) :
    Calls Tryd.prog 28 #[.string s] w fun e w' => e = .returned (.string (S (upL (L s)))) ∧ w' = w := by
  go_enter Tryd.func28, Tryd.ntmps28
  go_wp2_with fail
  go_loop [3] (fun i => ∃ n : Nat, n ≤ s.size ∧ i = .int .i64 ((n : Int) - 1) ∧ lastTo (L s) n = lastL (L s)) (fun i => (intOf i + 1).toNat)
  case atStart => exact ⟨s.size, Nat.le_refl _, rfl, rfl⟩
  case round =>
    obtain ⟨n, hn, rfl, hl⟩ := hrel
    have HLt := Lib.hid hl
    clear hl
    cases n with
    | zero =>
      have HR : Hid (S (upL (L s)) = ⟨#[]⟩) := Lib.hid (by rw [upL, ← HLt.out]; rfl)
      go_wp2_with fail
      go_ret
      exact ⟨by rw [HR.out]; rfl, rfl⟩
    | succ m =>
      have i0 := run_idx (P := Tryd.prog) (k := .i64) Tryd.underlying9 s (m : Int) m rfl (by omega)
      obtain ⟨c, hc⟩ : ∃ c, c = (L s).getD m 0 := ⟨_, rfl⟩
      rw [← hc] at i0
      have em : ((m + 1 : Nat) : Int) - 1 = (m : Int) := by omega
      rw [em]
      have HC := Lib.hid hc
      clear hc em
      by_cases h : c = 47
      · have e1 := eq47 h
        have hr : s.extract 0 m = S (upL (L s)) := by
          rw [S_extract_to, upL, ← HLt.out, lastTo_yes (by rw [← HC.out]; exact h), if_neg (by omega)]; rfl
        have HR := Lib.hid hr
        clear hr h
        go_wp2_with fail
        go_ret
        exact ⟨ret_string HR.out, rfl⟩
      · have e1 := ne47 h
        have hr : lastTo (L s) m = lastL (L s) := by rw [← HLt.out, lastTo_no (by rw [← HC.out]; exact h)]
        have HR := Lib.hid hr
        clear hr h
        go_wp2_with fail
        go_round
        case rel => exact ⟨m, by omega, by go_num, HR.out⟩
        case measure => simp [intOf]

/-- No slash. -/
def slB (l : List UInt8) : Bool := !hasB l 47
theorem slashless_any (s : ByteArray) (w : World) (hs : s.size ≤ 100000) :
    Calls Tryd.prog 15 #[.string s] w fun e w' => e = .returned (.bool (slB (L s))) ∧ w' = w := by
  go_enter Tryd.func15, Tryd.ntmps15
  go_wp2_with fail
  go_loop [6] (fun i => ∃ k : Nat, k ≤ s.size ∧ i = .int .i64 k ∧ ∀ d ∈ (L s).take k, d ≠ 47) (fun i => s.size - (intOf i).toNat)
  case atStart => exact ⟨0, Nat.zero_le _, rfl, by simp⟩
  case round =>
    obtain ⟨k, hk, rfl, hno⟩ := hrel
    have HNO := Lib.hid hno
    clear hno
    by_cases hlt : k < s.size
    · have hidx := run_idx (P := Tryd.prog) Tryd.underlying9 s (k := .i64) (k : Int) k rfl hlt
      have htk : (L s).take (k + 1) = (L s).take k ++ [(L s).getD k 0] := by
        rw [List.take_add_one]
        simp [List.getD, List.getElem?_eq_getElem (show k < (L s).length from hlt)]
      have hmem : (L s).getD k 0 ∈ L s := getD_mem hlt
      obtain ⟨d, hd⟩ : ∃ d, d = (L s).getD k 0 := ⟨_, rfl⟩
      rw [← hd] at hidx htk hmem
      have HTK := Lib.hid htk
      have HM := Lib.hid hmem
      clear htk hd hmem
      by_cases hdc : d = 47
      · have e1 := eq47 hdc
        have HR : Hid (slB (L s) = false) := Lib.hid (by rw [slB, hasB, List.contains_eq_mem, decide_eq_true (by rw [← hdc]; exact HM.out)]; rfl)
        clear hdc
        go_wp2
        go_ret
        exact ⟨ret_bool HR.out.symm, rfl⟩
      · have e1 := ne47 hdc
        have HDC := Lib.hid hdc
        clear hdc
        go_wp2
        go_round
        case rel => exact ⟨k + 1, by omega, by go_num, by
          rw [HTK.out]
          intro z hz
          rcases List.mem_append.1 hz with hz | hz
          · exact HNO.out z hz
          · simp at hz; subst hz; exact HDC.out⟩
        case measure => simp [intOf]; omega
    · have HR : Hid (slB (L s) = true) := Lib.hid (by
        have h := HNO.out
        rw [List.take_of_length_le (by rw [L_size]; omega)] at h
        rw [slB, hasB, List.contains_eq_mem, decide_eq_false (fun hm => h _ hm rfl)]; rfl)
      go_wp2
      go_ret
      exact ⟨ret_bool HR.out.symm, rfl⟩

/-- All bytes. -/
def bytesL (l : List It) : Nat := (l.map fun x => x.d.size).sum
theorem bytes_take {l : List It} {k : Nat} {x : It} (h : l[k]? = some x) : bytesL (l.take (k + 1)) = bytesL (l.take k) + x.d.size := by
  obtain ⟨hk, rfl⟩ := List.getElem?_eq_some_iff.1 h
  rw [bytesL, bytesL, List.take_succ_eq_append_getElem hk, List.map_append, List.sum_append]; simp
theorem sum_take_le {α : Type} (f : α → Nat) (l : List α) (k : Nat) : ((l.take k).map f).sum ≤ (l.map f).sum := by
  have : (l.map f).sum = ((l.take k).map f).sum + ((l.drop k).map f).sum := by rw [← List.sum_append, ← List.map_append, List.take_append_drop]
  omega

theorem bytes_any (l : List It) (v : Value) (w : World) (hl : Tr w w.heap.size v l) (hz : bytesL l ≤ 1000000) :
    Calls Tryd.prog 17 #[v] w fun e w' => e = .returned (.int .i64 ((bytesL l : Nat) : Int)) ∧ Below w.heap.size w w' := by
  obtain ⟨a, cap, rfl, hm⟩ := tr_shape hl
  obtain ⟨n, hn⟩ : ∃ n, n = l.length := ⟨_, rfl⟩
  rw [← hn] at hm
  have HL := Lib.hid hl
  have HN := Lib.hid hn
  have HZ := Lib.hid hz
  clear hl hz
  rw [← hn]
  clear hn
  go_enter Tryd.func17, Tryd.ntmps17
  go_wp2_with fail
  go_loopw [3, 8] (fun t i wr => ∃ k : Nat, k ≤ n ∧ i = .int .i64 k ∧ t = .int .i64 ((bytesL (l.take k) : Nat) : Int) ∧ Below w.heap.size w wr) (fun _ i _ => n - (intOf i).toNat)
  case atStart => exact ⟨0, Nat.zero_le _, rfl, rfl, Below.refl _ _⟩
  case round =>
    obtain ⟨k, hk, rfl, rfl, hb⟩ := hrel
    by_cases hlt : k < n
    · obtain ⟨x, hx⟩ : ∃ x, l[k]? = some x := ⟨_, List.getElem?_eq_getElem (by rw [← HN.out]; exact hlt)⟩
      obtain ⟨b1, o1, i1, hb1, c1⟩ := it_at (HL.out.below hb) 23 44 Tryd.underlying23 (by kernel_rfl) hx (k : Int) rfl
      obtain ⟨c2, c3, c4, c5, c6⟩ := c1
      rw [← HN.out] at i1
      have ht := bytes_take hx
      have hle : bytesL (l.take (k + 1)) ≤ 1000000 := Nat.le_trans (sum_take_le _ _ _) HZ.out
      have hb1' : b1 < wr.heap.size := Nat.lt_of_lt_of_le hb1 hb.size
      obtain ⟨X, hX⟩ : ∃ X, X = bytesL (l.take k) := ⟨_, rfl⟩
      rw [← hX] at ht ⊢
      rw [ht] at hle
      have HT := Lib.hid ht
      have HB := Lib.hid hb
      clear hx hb ht hX
      go_wp2
      go_roundw
      case rel => exact ⟨k + 1, by omega, by go_num, by rw [HT.out]; go_num, by have h1 := HB.out; have h2 := h1.size; go_grown⟩
      case measure => simp [intOf]; omega
    · obtain rfl : k = n := by omega
      rw [List.take_of_length_le (by rw [← HN.out]; exact Nat.le_refl _)]
      have HB := Lib.hid hb
      clear hb
      go_wp2
      go_ret
      exact ⟨rfl, HB.out⟩
end Go.Proofs.YtdelgbkllnccoaaDoor
