/-
  Slices of items; the walks of both Finds, of up, slashless, Bytes, Short.
-/
import Derived.Test.YtdelgbkllnccoaaDoorT4
import Derived.Test.YtdelgbkllnccoaaDoorSl
namespace Go.Proofs.YtdelgbkllnccoaaDoor
open Go.RowKit

/-- v holds the items l. -/
abbrev Tr (w : World) (B : Nat) (v : Value) (l : List It) : Prop := Sl w B 5 v l.length (l.flatMap itC)
theorem it_at {w : World} {B : Nat} {v : Value} {l : List It} (h : Tr w B v l) (T E : Nat) (hT : Tryd.prog.underlying T = some (.slice E)) (hs : (Tryd.prog.info? E).map (·.size) = some 5) {k : Nat} {x : It} (hx : l[k]? = some x) (i : Int) (hi : i = k) :
    ∃ b o, (∀ w' : World, (Instr.indexAt T v (.int .i64 i)).run Tryd.prog w' = .ok (.pointer (some ⟨b, o, none⟩)) w') ∧ b < B ∧ ItAt w b o x := by
  subst hi
  have hk := (List.getElem?_eq_some_iff.1 hx).1
  obtain ⟨a, cap, b, off, rfl, _, _, h1, h2, h3⟩ := h.open (P := Tryd.prog) T E hT hs
  have g := flat_get itC 5 itC_len l k x hx
  refine ⟨b, off + k * 5, fun w' => h1 k w' hk, by omega, ?_, ?_, ?_, ?_, ?_⟩
  · rw [show off + k * 5 = off + (k * 5 + 0) by omega, h3 _ (by omega), g 0 (by omega)]; rfl
  · rw [show off + k * 5 + 1 = off + (k * 5 + 1) by omega, h3 _ (by omega), g 1 (by omega)]; rfl
  · rw [show off + k * 5 + 2 = off + (k * 5 + 2) by omega, h3 _ (by omega), g 2 (by omega)]; rfl
  · rw [show off + k * 5 + 3 = off + (k * 5 + 3) by omega, h3 _ (by omega), g 3 (by omega)]; rfl
  · rw [show off + k * 5 + 4 = off + (k * 5 + 4) by omega, h3 _ (by omega), g 4 (by omega)]; rfl
theorem tr_shape {w : World} {B n size : Nat} {v : Value} {xs : List Value} (h : Sl w B size v n xs) : ∃ a cap, v = .slice a n cap ∧ n ≤ 9223372036854775807 := by
  have := h.len
  unfold maxLen at this
  obtain ⟨_, a, cap, e, _⟩ := h
  exact ⟨a, cap, e, this⟩
def noTo (l : List It) (t : List UInt8) (k : Nat) : Prop := ∀ j, j < k → ∀ y, l[j]? = some y → L y.p ≠ t
theorem noTo_succ {l : List It} {t : List UInt8} {k : Nat} {x : It} (h : noTo l t k) (hx : l[k]? = some x) (hp : L x.p ≠ t) : noTo l t (k + 1) := fun j hj y hy => by
  by_cases h1 : j < k
  · exact h j h1 y hy
  · obtain rfl : j = k := by omega
    rw [hx] at hy; cases hy; exact hp
theorem eq_L {a b : ByteArray} (h : L a = L b) : (a.toList == b.toList) = true := by rw [toList_L, toList_L, h]; simp
theorem ne_L {a b : ByteArray} (h : L a ≠ L b) : (a.toList == b.toList) = false := by rw [toList_L, toList_L]; simpa using h

theorem rfind_any (l : List It) (v : Value) (s : ByteArray) (w : World) (hl : Tr w w.heap.size v l) :
    Calls Tryd.prog 12 #[v, .string s] w fun e w' => e = .returned (.int .i64 (findZ l (L s))) ∧ w' = w := by
  obtain ⟨a, cap, rfl, hm⟩ := tr_shape hl
  obtain ⟨n, hn⟩ : ∃ n, n = l.length := ⟨_, rfl⟩
  rw [← hn] at hm
  have HL := Lib.hid hl
  have HN := Lib.hid hn
  clear hl
  rw [← hn]
  clear hn
  go_enter Tryd.func12, Tryd.ntmps12
  go_wp2_with fail
  go_loop [5] (fun i => ∃ k : Nat, k ≤ n ∧ i = .int .i64 k ∧ noTo l (L s) k) (fun i => n - (intOf i).toNat)
  case atStart => exact ⟨0, Nat.zero_le _, rfl, fun j hj => by omega⟩
  case round =>
    obtain ⟨k, hk, rfl, hno⟩ := hrel
    have HNO := Lib.hid hno
    clear hno
    by_cases hlt : k < n
    · obtain ⟨x, hx⟩ : ∃ x, l[k]? = some x := ⟨_, List.getElem?_eq_getElem (by rw [← HN.out]; exact hlt)⟩
      obtain ⟨b1, o1, i1, hb1, c1⟩ := it_at HL.out 26 36 Tryd.underlying26 (by kernel_rfl) hx (k : Int) rfl
      have c2 := c1.p
      rw [← HN.out] at i1
      have HX := Lib.hid hx
      clear hx c1
      by_cases hp : L x.p = L s
      · have e1 := eq_L hp
        have HR : Hid (findZ l (L s) = k) := Lib.hid (by rw [findZ, findI_at HX.out hp HNO.out])
        clear hp
        go_wp2
        go_ret
        exact ⟨ret_int HR.out.symm, rfl⟩
      · have e1 := ne_L hp
        have HP := Lib.hid hp
        clear hp
        go_wp2
        go_round
        case rel => exact ⟨k + 1, by omega, by go_num, noTo_succ HNO.out HX.out HP.out⟩
        case measure => simp [intOf]; omega
    · obtain rfl : k = n := by omega
      have HR : Hid (findZ l (L s) = -1) := Lib.hid (by rw [findZ, findI_end (by rw [← HN.out]; exact HNO.out)])
      go_wp2
      go_ret
      exact ⟨ret_int HR.out.symm, rfl⟩

theorem find_any (l : List It) (v : Value) (s : ByteArray) (w : World) (hl : Tr w w.heap.size v l) :
    Calls Tryd.prog 11 #[v, .string s] w fun e w' => e = .returned (.int .i64 (findZ l (L s))) ∧ Below w.heap.size w w' := by
  obtain ⟨a, cap, rfl, hm⟩ := tr_shape hl
  obtain ⟨n, hn⟩ : ∃ n, n = l.length := ⟨_, rfl⟩
  rw [← hn] at hm
  have HL := Lib.hid hl
  have HN := Lib.hid hn
  clear hl
  rw [← hn]
  clear hn
  go_enter Tryd.func11, Tryd.ntmps11
  go_wp2_with fail
  go_loopw [9] (fun i wr => ∃ k : Nat, k ≤ n ∧ i = .int .i64 k ∧ noTo l (L s) k ∧ Below w.heap.size w wr) (fun i _ => n - (intOf i).toNat)
  case atStart => exact ⟨0, Nat.zero_le _, rfl, fun j hj => by omega, Below.refl _ _⟩
  case round =>
    obtain ⟨k, hk, rfl, hno, hb⟩ := hrel
    have HNO := Lib.hid hno
    clear hno
    by_cases hlt : k < n
    · obtain ⟨x, hx⟩ : ∃ x, l[k]? = some x := ⟨_, List.getElem?_eq_getElem (by rw [← HN.out]; exact hlt)⟩
      obtain ⟨b1, o1, i1, hb1, c1⟩ := it_at (HL.out.below hb) 23 44 Tryd.underlying23 (by kernel_rfl) hx (k : Int) rfl
      obtain ⟨c2, c3, c4, c5, c6⟩ := c1
      rw [← HN.out] at i1
      have HX := Lib.hid hx
      have hb1' : b1 < wr.heap.size := Nat.lt_of_lt_of_le hb1 hb.size
      have HB := Lib.hid hb
      clear hx hb
      by_cases hp : L x.p = L s
      · have e1 := eq_L hp
        have HR : Hid (findZ l (L s) = k) := Lib.hid (by rw [findZ, findI_at HX.out hp HNO.out])
        clear hp
        go_wp2
        go_ret
        exact ⟨ret_int HR.out.symm, by have h1 := HB.out; have h2 := h1.size; go_grown⟩
      · have e1 := ne_L hp
        have HP := Lib.hid hp
        clear hp
        go_wp2
        go_roundw
        case rel => exact ⟨k + 1, by omega, by go_num, noTo_succ HNO.out HX.out HP.out, by have h1 := HB.out; have h2 := h1.size; go_grown⟩
        case measure => simp [intOf]; omega
    · obtain rfl : k = n := by omega
      have HR : Hid (findZ l (L s) = -1) := Lib.hid (by rw [findZ, findI_end (by rw [← HN.out]; exact HNO.out)])
      have HB := Lib.hid hb
      clear hb
      go_wp2
      go_ret
      exact ⟨ret_int HR.out.symm, HB.out⟩
end Go.Proofs.YtdelgbkllnccoaaDoor
