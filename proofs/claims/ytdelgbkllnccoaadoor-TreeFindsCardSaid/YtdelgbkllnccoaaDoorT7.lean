/-
  The walks of both Contents.
-/
import Derived.Test.YtdelgbkllnccoaaDoorT6
namespace Go.Proofs.YtdelgbkllnccoaaDoor
open Go.RowKit

theorem findI_at2 {l : List It} {t : List UInt8} {j : Nat} {o : It} (h : findI l t = some j) (ho : l[j]? = some o) : findV l t = some o := by rw [findV_eq, h]; exact ho
theorem findV_no {l : List It} {t : List UInt8} (h : findI l t = none) : findV l t = none := by rw [findV_eq, h]; rfl
theorem findZ_some {l : List It} {t : List UInt8} {j : Nat} (h : findI l t = some j) : findZ l t = j := by rw [findZ, h]
theorem findZ_none {l : List It} {t : List UInt8} (h : findI l t = none) : findZ l t = -1 := by rw [findZ, h]

/-- What an item has. -/
def contS (l : List It) (x : It) : ByteArray := if L x.s = [] then x.d else match findV l (L x.s) with | some o => o.d | none => x.d

theorem rcontent_any (l : List It) (v : Value) (k : Nat) (x : It) (w : World) (hl : Tr w w.heap.size v l) (hx : l[k]? = some x) :
    Calls Tryd.prog 14 #[v, .int .i64 (k : Int)] w fun e w' => e = .returned (.string (contS l x)) ∧ w' = w := by
  obtain ⟨b1, o1, i1, hb1, c1⟩ := it_at hl 26 36 Tryd.underlying26 (by kernel_rfl) hx (k : Int) rfl
  have c2 := c1.d
  have c3 := c1.s
  have hk := (List.getElem?_eq_some_iff.1 hx).1
  by_cases h0 : L x.s = []
  · have e1 := nil_empty h0
    have HR : Hid (contS l x = x.d) := Lib.hid (by rw [contS, if_pos h0])
    clear hl hx c1 h0
    go_enter Tryd.func14, Tryd.ntmps14
    go_wp2
    go_ret
    exact ⟨ret_string HR.out.symm, rfl⟩
  · have e1 := ne_empty h0
    have CF := Lib.hid (rfind_any l v x.s w hl)
    cases hf : findI l (L x.s) with
    | none =>
      have HR : Hid (contS l x = x.d) := Lib.hid (by rw [contS, if_neg h0, findV_no hf])
      have hz := findZ_none hf
      rw [hz] at CF
      clear hl hx c1 h0 hf hz
      go_enter Tryd.func14, Tryd.ntmps14
      go_wp2_with fail
      refine CF.out.mono ?_
      rintro e w1 ⟨rfl, rfl⟩
      go_wp2
      go_ret
      exact ⟨ret_string HR.out.symm, rfl⟩
    | some j =>
      obtain ⟨o, ho, _⟩ := findI_some hf
      obtain ⟨b2, o2, i2, hb2, c4⟩ := it_at hl 26 36 Tryd.underlying26 (by kernel_rfl) ho (j : Int) rfl
      have c5 := c4.d
      have HR : Hid (contS l x = o.d) := Lib.hid (by rw [contS, if_neg h0, findI_at2 hf ho])
      have hz := findZ_some hf
      rw [hz] at CF
      clear hl hx c1 h0 hf hz ho c4
      go_enter Tryd.func14, Tryd.ntmps14
      go_wp2_with fail
      refine CF.out.mono ?_
      rintro e w1 ⟨rfl, rfl⟩
      go_wp2
      go_ret
      exact ⟨ret_string HR.out.symm, rfl⟩

theorem content_any (l : List It) (v : Value) (k : Nat) (x : It) (w : World) (hl : Tr w w.heap.size v l) (hx : l[k]? = some x) :
    Calls Tryd.prog 13 #[v, .int .i64 (k : Int)] w fun e w' => e = .returned (.string (contS l x)) ∧ Below w.heap.size w w' := by
  obtain ⟨b1, o1, i1, hb1, c1⟩ := it_at hl 23 44 Tryd.underlying23 (by kernel_rfl) hx (k : Int) rfl
  have c2 := c1.d
  have c3 := c1.s
  have hk := (List.getElem?_eq_some_iff.1 hx).1
  obtain ⟨a, cap, rfl, hm⟩ := tr_shape hl
  by_cases h0 : L x.s = []
  · have e1 := nil_empty h0
    have HR : Hid (contS l x = x.d) := Lib.hid (by rw [contS, if_pos h0])
    clear hl hx c1 h0
    go_enter Tryd.func13, Tryd.ntmps13
    go_wp2
    go_ret
    exact ⟨ret_string HR.out.symm, Below.refl _ _⟩
  · have e1 := ne_empty h0
    have CF := Lib.hid (find_any l _ x.s w hl)
    cases hf : findI l (L x.s) with
    | none =>
      have HR : Hid (contS l x = x.d) := Lib.hid (by rw [contS, if_neg h0, findV_no hf])
      have hz := findZ_none hf
      rw [hz] at CF
      clear hl hx c1 h0 hf hz
      go_enter Tryd.func13, Tryd.ntmps13
      go_wp2_with fail
      refine CF.out.mono ?_
      rintro e w1 ⟨rfl, hb⟩
      have c2' : w1.cell? ⟨b1, o1 + 3, none⟩ = some (.string x.d) := (hb.cell hb1).trans c2
      have HB := Lib.hid hb
      clear hb c2 c3
      go_wp2
      go_ret
      exact ⟨ret_string HR.out.symm, HB.out⟩
    | some j =>
      obtain ⟨o, ho, _⟩ := findI_some hf
      have hj := (List.getElem?_eq_some_iff.1 ho).1
      obtain ⟨b2, o2, i2, hb2, c4⟩ := it_at hl 23 44 Tryd.underlying23 (by kernel_rfl) ho (j : Int) rfl
      have c5 := c4.d
      have HR : Hid (contS l x = o.d) := Lib.hid (by rw [contS, if_neg h0, findI_at2 hf ho])
      have hz := findZ_some hf
      rw [hz] at CF
      clear hl hx c1 h0 hf hz ho c4
      go_enter Tryd.func13, Tryd.ntmps13
      go_wp2_with fail
      refine CF.out.mono ?_
      rintro e w1 ⟨rfl, hb⟩
      have c5' : w1.cell? ⟨b2, o2 + 3, none⟩ = some (.string o.d) := (hb.cell hb2).trans c5
      have HB := Lib.hid hb
      clear hb c2 c3 c5
      go_wp2
      go_ret
      exact ⟨ret_string HR.out.symm, HB.out⟩

theorem content_out (a : Option Addr) (n cap : Nat) (i : Int) (w : World) (hn : n ≤ 9223372036854775807) (h : i < 0 ∨ (n : Int) ≤ i) :
    Calls Tryd.prog 13 #[.slice a n cap, .int .i64 i] w fun e w' => e = .returned (.string ⟨#[]⟩) ∧ w' = w := by
  rcases h with h | h
  · go_enter Tryd.func13, Tryd.ntmps13
    go_wp2
    go_ret
    exact ⟨rfl, rfl⟩
  · go_enter Tryd.func13, Tryd.ntmps13
    go_wp2
    go_ret
    exact ⟨rfl, rfl⟩
end Go.Proofs.YtdelgbkllnccoaaDoor
