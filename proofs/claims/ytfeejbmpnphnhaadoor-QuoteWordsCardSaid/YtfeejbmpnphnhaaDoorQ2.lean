/-
  The walks of what tells whether a byte, or a word, is bare, and of how a word is quoted: the program's and the document's.
-/
import Derived.Test.YtfeejbmpnphnhaaDoorQ1
import Derived.Test.YtfeejbmpnphnhaaDoorStr
import Derived.Test.YtfeejbmpnphnhaaDoorHeld
import Derived.Test.YtfeejbmpnphnhaaDoorBytes
namespace Go.Proofs.YtfeejbmpnphnhaaDoor
open Go.RowKit

theorem indexOf_hasB (c : UInt8) (l : List UInt8) (b : Bool) (h : hasB l c = b) : decide (0 ≤ Lib.indexByte l c) = b := by
  rw [← h]
  cases hb : hasB l c with
  | true =>
    rw [decide_eq_true_iff]
    refine Int.not_lt.1 fun hlt => ?_
    have h1 : Lib.indexByte l c = -1 := by have := Lib.indexByte_ge l c; omega
    have hm : c ∈ l := by simpa [hasB] using hb
    obtain ⟨k, hk, e⟩ := List.getElem_of_mem hm
    exact Lib.indexByte_none h1 k (by rw [List.getElem?_eq_getElem hk, e])
  | false =>
    rw [decide_eq_false_iff_not]
    intro h0
    obtain ⟨o, ho⟩ := Int.eq_ofNat_of_zero_le h0
    have := List.mem_of_getElem? (Lib.indexByte_some ho).1
    simp [hasB] at hb
    exact hb this

theorem safe_any (c : UInt8) (w : World) :
    Calls Tryd.prog 19 #[.int .u8 ((c.toNat : Nat) : Int)] w fun e w' => e = .returned (.bool (safeB c)) ∧ w' = w := by
  obtain ⟨b, hb⟩ : ∃ b, b = safeB c := ⟨_, rfl⟩
  rw [← hb]
  obtain ⟨n, hn⟩ : ∃ n : Nat, n = c.toNat := ⟨_, rfl⟩
  obtain ⟨v, hv⟩ : ∃ v, Lib.indexByte others c = v := ⟨_, rfl⟩
  have C := Lib.hid (fun w => indexAt_any (S others) c v w hv)
  have ho := indexOf_hasB c others _ rfl
  rw [hv] at ho
  have hal : alnumB c = ((decide (97 ≤ n) && decide (n ≤ 122)) || (decide (65 ≤ n) && decide (n ≤ 90)) || (decide (48 ≤ n) && decide (n ≤ 57))) := by rw [alnumB, hn]
  rw [safeB, hal, ← ho] at hb
  rw [← hn] at C
  rw [← hn]
  clear hv ho hal hn
  by_cases h1 : 97 ≤ n ∧ n ≤ 122
  · skip
    have hb2 : b = true := by rw [hb]; simp [h1]
    subst hb2
    obtain ⟨h2, h3⟩ := h1
    clear hb
    go_enter Tryd.func19, Tryd.ntmps19
    go_wp2_with fail
    go_ret
    exact ⟨rfl, rfl⟩
  · by_cases h2 : 65 ≤ n ∧ n ≤ 90
    · have h1 := h2
      clear h2
      have hb2 : b = true := by rw [hb]; simp [h1]
      subst hb2
      obtain ⟨h2, h3⟩ := h1
      clear hb
      go_enter Tryd.func19, Tryd.ntmps19
      go_wp2_with fail
      go_ret
      exact ⟨rfl, rfl⟩
    · by_cases h3 : 48 ≤ n ∧ n ≤ 57
      · have hb2 : b = true := by rw [hb]; simp [h3]
        subst hb2
        obtain ⟨h4, h5⟩ := h3
        clear hb h1 h2
        go_enter Tryd.func19, Tryd.ntmps19
        go_wp2_with fail
        go_ret
        exact ⟨rfl, rfl⟩
      · have hb2 : b = decide (0 ≤ v) := by
          rw [hb, Bool.eq_iff_iff]
          simp
          intro h
          exfalso
          omega
        have HB := Lib.hid hb2
        clear hb hb2
        have k1 : n < 97 ∨ 122 < n := by omega
        have k2 : n < 65 ∨ 90 < n := by omega
        have k3 : n < 48 ∨ 57 < n := by omega
        clear h1 h2 h3
        rcases k1 with k1 | k1 <;> rcases k2 with k2 | k2 <;> rcases k3 with k3 | k3
        all_goals try omega
        all_goals
          go_enter Tryd.func19, Tryd.ntmps19
          go_wp2_with fail
          refine (C.out _).mono ?_
          rintro e w1 ⟨rfl, rfl⟩
          go_wp2_with fail
          go_ret
          exact ⟨ret_bool HB.out.symm, rfl⟩
end Go.Proofs.YtfeejbmpnphnhaaDoor
