/-
  The place of the least of numbers: the plain law; the code's Least and the document's.
-/
import Derived.Test.YtnofoenkeoabpaaDoorE6
namespace Go.Proofs.YtnofoenkeoabpaaDoor
open Go.RowKit

def flo (r : Nat) : Value := .float .f64 r
/-- i is the place of the first that no other one stands ahead of; -1: there is none. -/
def Lst (rs : List Nat) (i : Int) : Prop := (rs = [] ∧ i = -1) ∨ ∃ (k : Nat) (x : Nat), i = k ∧ rs[k]? = some x ∧ (∀ (j : Nat) y, rs[j]? = some y → rankN x ≤ rankN y) ∧ ∀ (j : Nat) y, j < k → rs[j]? = some y → rankN x < rankN y

theorem Lst.unique {rs : List Nat} {i j : Int} (h1 : Lst rs i) (h2 : Lst rs j) : i = j := by
  rcases h1 with ⟨e1, rfl⟩ | ⟨k, x, rfl, kx, ka, kb⟩
  · rcases h2 with ⟨e2, rfl⟩ | ⟨l, y, rfl, ly, la, lb⟩
    · rfl
    · rw [e1] at ly; simp at ly
  · rcases h2 with ⟨e2, rfl⟩ | ⟨l, y, rfl, ly, la, lb⟩
    · rw [e2] at kx; simp at kx
    · rcases Nat.lt_trichotomy k l with h | h | h
      · have := lb k x h kx
        have := ka l y ly
        omega
      · rw [h]
      · have := kb l y h ly
        have := la k x kx
        omega

theorem get_take_succ {rs : List Nat} {k : Nat} {x : Nat} (h : rs[k]? = some x) : rs.take (k + 1) = rs.take k ++ [x] := by
  rw [List.take_add_one, h]; rfl
theorem get_snoc {l : List Nat} {x y : Nat} {j : Nat} (h : (l ++ [x])[j]? = some y) : (j < l.length ∧ l[j]? = some y) ∨ (j = l.length ∧ y = x) := by
  rcases Nat.lt_or_ge j l.length with hj | hj
  · rw [List.getElem?_append_left hj] at h; exact .inl ⟨hj, h⟩
  · rw [List.getElem?_append_right hj] at h
    rcases Nat.eq_zero_or_pos (j - l.length) with h0 | h0
    · rw [h0] at h; simp at h; exact .inr ⟨by omega, h.symm⟩
    · rw [List.getElem?_eq_none (by simp; omega)] at h; cases h
theorem lst_first (x : Nat) : Lst [x] 0 := .inr ⟨0, x, rfl, rfl, fun j y h => by
  rcases j with _ | j
  · simp at h; subst h; exact Nat.le_refl _
  · simp at h, fun j y hj => by omega⟩
theorem lst_new {l : List Nat} {m x z : Nat} (h : Lst l m) (hm : l[m]? = some z) (hl : lessN x z = true) : Lst (l ++ [x]) l.length := by
  have hl' : rankN x < rankN z := of_decide_eq_true hl
  rcases h with ⟨e1, e2⟩ | ⟨k, z', e, kx, ka, kb⟩
  · omega
  · obtain rfl : m = k := by omega
    obtain rfl : z = z' := by rw [hm] at kx; injection kx
    refine .inr ⟨l.length, x, rfl, by simp, fun j y hj => ?_, fun j y hjl hj => ?_⟩
    · rcases get_snoc hj with ⟨h1, h2⟩ | ⟨h1, rfl⟩
      · have := ka j y h2; omega
      · exact Nat.le_refl _
    · rcases get_snoc hj with ⟨h1, h2⟩ | ⟨h1, rfl⟩
      · have := ka j y h2; omega
      · omega
theorem lst_old {l : List Nat} {m x z : Nat} (h : Lst l m) (hm : l[m]? = some z) (hl : lessN x z = false) : Lst (l ++ [x]) m := by
  have hl' : ¬ rankN x < rankN z := of_decide_eq_false hl
  rcases h with ⟨e1, e2⟩ | ⟨k, z', e, kx, ka, kb⟩
  · omega
  · obtain rfl : m = k := by omega
    obtain rfl : z = z' := by rw [hm] at kx; injection kx
    have hml : m < l.length := (List.getElem?_eq_some_iff.1 hm).1
    refine .inr ⟨m, z, rfl, by rw [List.getElem?_append_left hml]; exact hm, fun j y hj => ?_, fun j y hjl hj => ?_⟩
    · rcases get_snoc hj with ⟨h1, h2⟩ | ⟨h1, rfl⟩
      · exact ka j y h2
      · omega
    · rcases get_snoc hj with ⟨h1, h2⟩ | ⟨h1, rfl⟩
      · exact kb j y hjl h2
      · omega
theorem lst_some (rs : List Nat) : ∃ i, Lst rs i := by
  have : ∀ (n : Nat) (l : List Nat), l.length = n → ∃ i, Lst l i := by
    intro n
    induction n with
    | zero => intro l hl; exact ⟨-1, .inl ⟨List.length_eq_zero_iff.1 hl, rfl⟩⟩
    | succ n ih =>
      intro l hl
      have hne : l ≠ [] := by intro e; rw [e] at hl; simp at hl
      obtain ⟨l', x, rfl⟩ : ∃ l' x, l = l' ++ [x] := ⟨_, _, (List.dropLast_concat_getLast hne).symm⟩
      obtain ⟨i, hi⟩ := ih l' (by simp at hl; exact hl)
      have hi' := hi
      rcases hi' with ⟨e1, e2⟩ | ⟨k, z, e, kx, _⟩
      · subst e1; exact ⟨0, lst_first x⟩
      · subst e
        cases hl : lessN x z with
        | true => exact ⟨_, lst_new hi kx hl⟩
        | false => exact ⟨_, lst_old hi kx hl⟩
  exact this rs.length rs rfl

theorem floGet {rs : List Nat} {k x : Nat} (h : rs[k]? = some x) : (rs.map flo)[k]? = some (.float .f64 x) := by rw [List.getElem?_map, h]; rfl

set_option maxHeartbeats 800000 in
theorem least_any (a : Option Addr) (n cap : Nat) (rs : List Nat) (w : World) (h : Elems w w.heap.size a n (rs.map flo)) (hr : ∀ r ∈ rs, r < 18446744073709551616) :
    Calls Tryd.prog 15 #[.slice a n cap] w fun e w' => (∃ i : Int, e = .returned (.int .i64 i) ∧ Lst rs i) ∧ w' = w := by
  obtain ⟨b, off, hix, hB, hc⟩ := h.open (P := Tryd.prog) 38 22 Tryd.underlying38 (by kernel_rfl)
  have hn : rs.length = n := by have := h.1; simpa using this
  have hnm := h.2.1
  unfold maxLen at hnm
  have HC := Lib.hid hc
  have HR := Lib.hid hr
  have HN := Lib.hid hn
  clear hc hr hn h
  go_enter Tryd.func15, Tryd.ntmps15
  go_wp2_with fail
  go_loop [3, 8] (fun m i => ∃ (k : Nat) (y : Int), k ≤ n ∧ i = .int .i64 k ∧ m = .int .i64 y ∧ Lst (rs.take k) y) (fun _ i => n - (intOf i).toNat)
  case atStart => exact ⟨0, -1, by omega, rfl, rfl, .inl ⟨rfl, rfl⟩⟩
  case round =>
    obtain ⟨k, y, hk, rfl, rfl, hl⟩ := hrel
    by_cases hlt : k < n
    · obtain ⟨x, hx⟩ : ∃ x, rs[k]? = some x := ⟨_, List.getElem?_eq_getElem (by rw [HN.out]; exact hlt)⟩
      have hx2 := HR.out x (List.mem_of_getElem? hx)
      have hck := (HC.out k hlt).trans (floGet hx)
      have HTK := Lib.hid (get_take_succ hx)
      have HLK : Hid ((rs.take k).length = k) := Lib.hid (by rw [List.length_take, HN.out]; omega)
      have HL := Lib.hid hl
      have ixk := fun w' => hix k cap w' hlt
      rcases hl with ⟨e1, rfl⟩ | ⟨m, z, rfl, mz, _, _⟩
      · have HE := Lib.hid e1
        clear e1 hx
        go_wp2_with fail
        go_round
        case rel => exact ⟨k + 1, (k : Int), by omega, by go_num, rfl, by
          have e0 := HLK.out
          rw [HE.out] at e0
          obtain rfl : k = 0 := by simpa using e0.symm
          rw [HTK.out]
          exact lst_first x⟩
        case measure => simp [intOf]; omega
      · have hmk : m < k := by have := (List.getElem?_eq_some_iff.1 mz).1; rw [HLK.out] at this; exact this
        have hz : rs[m]? = some z := by rw [List.getElem?_take_of_lt hmk] at mz; exact mz
        have hz2 := HR.out z (List.mem_of_getElem? hz)
        have hcm := (HC.out m (by omega)).trans (floGet hz)
        have ixm := fun w' => hix m cap w' (by omega)
        have C := Lib.hid (less_any x z hx2 hz2)
        have HMZ := Lib.hid mz
        obtain ⟨d, hd⟩ : ∃ d, lessN x z = d := ⟨_, rfl⟩
        rw [hd] at C
        have HD := Lib.hid hd
        clear hx hz hd hx2 hz2 mz
        cases d
        · go_wp2_with (go_at_call 24; refine (C.out _).mono ?_; rintro e W ⟨rfl, rfl⟩)
          go_round
          case rel => exact ⟨k + 1, (m : Int), by omega, by go_num, rfl, by rw [HTK.out]; exact lst_old HL.out HMZ.out HD.out⟩
          case measure => simp [intOf]; omega
        · go_wp2_with (go_at_call 24; refine (C.out _).mono ?_; rintro e W ⟨rfl, rfl⟩)
          go_round
          case rel => exact ⟨k + 1, (k : Int), by omega, by go_num, rfl, by
            rw [HTK.out]
            have := lst_new HL.out HMZ.out HD.out
            rw [HLK.out] at this
            exact this⟩
          case measure => simp [intOf]; omega
    · have e : rs.take k = rs := List.take_of_length_le (by rw [HN.out]; omega)
      rw [e] at hl
      have HL := Lib.hid hl
      clear hl e
      go_wp2_with fail
      go_ret
      exact ⟨⟨_, rfl, HL.out⟩, rfl⟩

end Go.Proofs.YtnofoenkeoabpaaDoor
