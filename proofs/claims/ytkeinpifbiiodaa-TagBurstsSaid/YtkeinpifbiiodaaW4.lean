/-
  Walks for TagFinds, TagRises, TagBursts: In, free, and the two First. Their conditions are bounds on lengths.
-/
import Derived.Test.YtkeinpifbiiodaaW1
import Derived.Test.YtkeinpifbiiodaaShelf
import Derived.Lib.QuietBelow
import Derived.Lib.IndexMore
import Derived.Lib.Strings
namespace Go.Proofs.Ytkeinpifbiiodaa
open Go.RowKit

/-- Does t stand in s? -/
def occ (s t : List UInt8) : Bool := Lib.contains s t
theorem occ_iff (s t : List UInt8) : occ s t = true ↔ ∃ i, i + t.length ≤ s.length ∧ (s.drop i).take t.length = t := by
  unfold occ Lib.contains
  rw [decide_eq_true_eq]
  have nil : ∀ i, t = [] → (s.drop i).take t.length = t := by intro i h; subst h; simp
  constructor
  · intro h
    by_cases hn : ∀ j, j ≤ s.length → Lib.occAt s t j = false
    · rw [Lib.index_none hn] at h; omega
    · simp only [Classical.not_forall] at hn
      obtain ⟨j, hj, hn⟩ := hn
      have hj2 : Lib.occAt s t j = true := by simpa using hn
      rcases Lib.occAt_room hj2 with h1 | h1
      · exact ⟨j, h1, by rw [Lib.occAt_iff_take s t j h1] at hj2; simpa using hj2⟩
      · exact ⟨0, by subst h1; simp, nil 0 h1⟩
  · rintro ⟨i, hi, he⟩
    have ho : Lib.occAt s t i = true := by rw [Lib.occAt_iff_take s t i hi]; simpa using he
    have : ∀ n, (∃ j, j ≤ n ∧ j ≤ s.length ∧ Lib.occAt s t j = true ∧ ∀ m, m < j → Lib.occAt s t m = false) ∨ ∀ m, m ≤ n → Lib.occAt s t m = false := by
      intro n
      induction n with
      | zero =>
        cases h : Lib.occAt s t 0
        · exact .inr fun m hm => by obtain rfl : m = 0 := by omega
                                    exact h
        · exact .inl ⟨0, by omega, by omega, h, fun m hm => by omega⟩
      | succ n ih =>
        rcases ih with ⟨j, h1, h2⟩ | ih
        · exact .inl ⟨j, by omega, h2⟩
        · cases h : Lib.occAt s t (n + 1)
          · exact .inr fun m hm => by
              by_cases e : m = n + 1
              · rw [e]; exact h
              · exact ih m (by omega)
          · by_cases hn : n + 1 ≤ s.length
            · exact .inl ⟨n + 1, by omega, hn, h, fun m hm => ih m (by omega)⟩
            · exact .inr fun m hm => by
                by_cases e : m = n + 1
                · rcases Lib.occAt_room h with h1 | h1
                  · omega
                  · have := ih i (by omega); rw [this] at ho; cases ho
                · exact ih m (by omega)
    rcases this i with ⟨j, _, h2, h3, h4⟩ | h
    · rw [Lib.index_first h2 h3 h4]; omega
    · rw [h i (Nat.le_refl _)] at ho; cases ho

theorem occ_false {s t : List UInt8} (h : ∀ i, i + t.length ≤ s.length → (s.drop i).take t.length ≠ t) : occ s t = false := by
  cases hc : occ s t
  · rfl
  · obtain ⟨i, h1, h2⟩ := (occ_iff s t).1 hc
    exact absurd h2 (h i h1)

set_option maxHeartbeats 400000 in
theorem in_any (s t : ByteArray) (w : World) (hs : s.size ≤ 100000) (ht : t.size ≤ 100000) :
    Calls Try.prog 17 #[.string s, .string t] w fun e w' => e = .returned (.bool (occ (L s) (L t))) ∧ w = w' := by
  go_enter Try.func17, Try.ntmps17
  go_wp2
  go_loop [5] (fun i => ∃ k : Nat, k ≤ s.size + 1 ∧ i = .int .i64 k ∧ ∀ j, j < k → j + t.size ≤ s.size → ((L s).drop j).take t.size ≠ L t) (fun i => s.size + 1 - (intOf i).toNat)
  case atStart => exact ⟨0, by omega, rfl, fun j hj => by omega⟩
  case round =>
    obtain ⟨k, hk, rfl, hr⟩ := hrel
    have HR := Lib.hid hr
    clear hr
    by_cases hlt : k + t.size ≤ s.size
    · have hx : (s.extract k (k + t.size)).toList = ((L s).drop k).take t.size := by rw [Lib.extract_toList, L, show k + t.size - k = t.size by omega]
      have HX := Lib.hid hx
      clear hx
      by_cases heq : ((L s).drop k).take t.size = L t
      · have hb : ((s.extract k (k + t.size)).toList == t.toList) = true := by rw [HX.out, toList_L, beq_iff_eq]; exact heq
        have HE := Lib.hid heq
        clear heq
        go_wp2
        go_ret
        exact ⟨ret_bool (by symm; rw [occ_iff]; exact ⟨k, by rw [L_size, L_size]; exact hlt, by rw [L_size]; exact HE.out⟩), rfl⟩
      · have hb : ((s.extract k (k + t.size)).toList == t.toList) = false := by rw [HX.out, toList_L, beq_eq_false_iff_ne]; exact heq
        have HE := Lib.hid heq
        clear heq
        go_wp2
        go_round
        case rel =>
          refine ⟨k + 1, by omega, by go_num, fun j hj hj2 => ?_⟩
          by_cases e : j = k
          · rw [e]; exact HE.out
          · exact HR.out j (by omega) hj2
        case measure => simp [intOf]; omega
    · go_wp2
      go_ret
      exact ⟨ret_bool (by symm; exact occ_false fun i hi => by rw [L_size, L_size] at hi; rw [L_size]; exact HR.out i (by omega) hi), rfl⟩

/-- No text has either half of the number's tag. -/
def freeB (n : Nat) (ss : List ByteArray) : Bool := ss.all (fun s => !(occ (L s) (halfB n) || occ (L s) (halfE n)))

set_option maxHeartbeats 400000 in
theorem free_any (m : Nat) (a : Option Addr) (n cap : Nat) (ss : List ByteArray) (w : World) (h : Elems w w.heap.size a n (ss.map .string)) (hm : m < 11881376) (hsz : ∀ s ∈ ss, s.size ≤ 100000)
    (hv : ∃ c, w.cell? ⟨0, 0, none⟩ = some (.int .i64 c)) (hv0 : 0 < w.heap.size) :
    Calls Try.prog 21 #[.int .i64 m, .slice a n cap] w fun e w' => e = .returned (.bool (freeB m ss)) ∧ Below w.heap.size w w' := by
  obtain ⟨c, hv⟩ := hv
  obtain ⟨b, off, hix, hB, hc⟩ := h.open (P := Try.prog) 22 9 Try.underlying22 (by kernel_rfl)
  have hl : ss.length = n := by simpa using h.1
  have hmx := h.2.1
  unfold maxLen at hmx
  have HL := Lib.hid hl
  have HC := Lib.hid hc
  have HB := Lib.hid hB
  have HS := Lib.hid hsz
  have HV := Lib.hid hv
  clear hl hc h hB hsz hv
  go_enter Try.func21, Try.ntmps21
  go_wp2_with fail
  refine (halves_any m _ hm).mono ?_
  rintro e w1 ⟨rfl, hb1⟩
  have HV1 : Hid (w1.cell? ⟨0, 0, none⟩ = some (.int .i64 c)) := by show w1.cell? _ = _; rw [hb1.cell (p := ⟨0, 0, none⟩) hv0]; exact HV.out
  go_wp2_with fail
  go_loop [16] (fun i => ∃ k : Nat, k ≤ n ∧ i = .int .i64 k ∧ freeB m ss = freeB m (ss.drop k)) (fun i => n - (intOf i).toNat)
  case atStart => exact ⟨0, Nat.zero_le _, rfl, rfl⟩
  case round =>
    obtain ⟨k, hk, rfl, hr⟩ := hrel
    have HR := Lib.hid hr
    clear hr
    by_cases hlt : k < n
    · have hk' : k < ss.length := by rw [HL.out]; exact hlt
      obtain ⟨s, hs⟩ : ∃ s, s = ss[k] := ⟨_, rfl⟩
      have hsm : s.size < 4294967281 := by have := HS.out s (by rw [hs]; exact List.getElem_mem _); omega
      have hcell : w1.cell? ⟨b, off + k, none⟩ = some (.string s) := by
        rw [hb1.cell (p := ⟨b, off + k, none⟩) (by have := HB.out; show b < _; omega), HC.out k hlt, hs]; simp [hk']
      have hd := List.drop_eq_getElem_cons hk'
      rw [← hs] at hd
      have HD := Lib.hid hd
      clear hd hs hk'
      cases hB1 : occ (L s) (halfB m)
      · have F1 := Lib.hid hB1
        clear hB1
        cases hE1 : occ (L s) (halfE m)
        · have F2 := Lib.hid hE1
          clear hE1
          go_wp2_with fail
          refine (Try.strings_Contains s _ c w1 hsm HV1.out).mono ?_
          rw [show Lib.contains s.data.toList (S (halfB m)).data.toList = false from F1.out]
          rintro e w2 ⟨rfl, rfl⟩
          go_wp2_with fail
          refine (Try.strings_Contains s _ c _ hsm HV1.out).mono ?_
          rw [show Lib.contains s.data.toList (S (halfE m)).data.toList = false from F2.out]
          rintro e w2 ⟨rfl, rfl⟩
          go_wp2_with fail
          go_round
          case rel => exact ⟨k + 1, by omega, by go_num, by rw [HR.out, HD.out]; simp [freeB, F1.out, F2.out]⟩
          case measure => simp [intOf]; omega
        · have F2 := Lib.hid hE1
          clear hE1
          go_wp2_with fail
          refine (Try.strings_Contains s _ c w1 hsm HV1.out).mono ?_
          rw [show Lib.contains s.data.toList (S (halfB m)).data.toList = false from F1.out]
          rintro e w2 ⟨rfl, rfl⟩
          go_wp2_with fail
          refine (Try.strings_Contains s _ c _ hsm HV1.out).mono ?_
          rw [show Lib.contains s.data.toList (S (halfE m)).data.toList = true from F2.out]
          rintro e w2 ⟨rfl, rfl⟩
          go_wp2_with fail
          go_ret
          exact ⟨ret_bool (by rw [HR.out, HD.out]; simp [freeB, F2.out]), hb1⟩
      · have F1 := Lib.hid hB1
        clear hB1
        go_wp2_with fail
        refine (Try.strings_Contains s _ c w1 hsm HV1.out).mono ?_
        rw [show Lib.contains s.data.toList (S (halfB m)).data.toList = true from F1.out]
        rintro e w2 ⟨rfl, rfl⟩
        go_wp2_with fail
        go_ret
        exact ⟨ret_bool (by rw [HR.out, HD.out]; simp [freeB, F1.out]), hb1⟩
    · go_wp2_with fail
      go_ret
      have : k = n := by omega
      exact ⟨ret_bool (by rw [HR.out, this, List.drop_of_length_le (by rw [HL.out]; exact Nat.le_refl _)]; rfl), hb1⟩
end Go.Proofs.Ytkeinpifbiiodaa
