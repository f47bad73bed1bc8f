/-
  Walks for TagStages: the reference's Stage, the law.
-/
import Derived.Test.YtkeinpifbiiodaaW2
namespace Go.Proofs.Ytkeinpifbiiodaa
open Go.RowKit

set_option maxHeartbeats 800000 in
theorem refStage_any (a : Option Addr) (n cap : Nat) (ss : List ByteArray) (w : World) (h : Elems w w.heap.size a n (ss.map .string)) (hn : n ≤ 30)
    (m : Nat) (hm : m ≤ n) (h1 : stageL m ∉ ss.map L) (h2 : ∀ k, k < m → stageL k ∈ ss.map L) :
    Calls Try.prog 10 #[.slice a n cap] w fun e w' => e = .returned (.string (S (stageL m))) ∧ Below w.heap.size w w' := by
  obtain ⟨b, off, hix, hB, hc⟩ := h.open (P := Try.prog) 22 9 Try.underlying22 (by kernel_rfl)
  have hl : ss.length = n := by simpa using h.1
  have HL := Lib.hid hl
  have HC := Lib.hid hc
  have HB := Lib.hid hB
  have H1 := Lib.hid h1
  have H2 := Lib.hid h2
  clear hl hc h hB h1 h2
  go_enter Try.func10, Try.ntmps10
  go_wp2
  go_loopw [3] (fun i wr => ∃ k : Nat, k ≤ m ∧ i = .int .i64 k ∧ Below w.heap.size w wr) (fun i _ => m - (intOf i).toNat)
  case atStart => exact ⟨0, by omega, rfl, Below.refl _ _⟩
  case round =>
    obtain ⟨k, hk, rfl, hb⟩ := hrel
    have hbs := hb.size
    obtain ⟨q, hq⟩ : ∃ q : ByteArray, q = S (stageL k) := ⟨_, rfl⟩
    have hqL : L q = stageL k := by rw [hq, L_S]
    have HQ := Lib.hid hq
    have HQL := Lib.hid hqL
    have inner : ∀ (wo : World), Below w.heap.size w wo → ∀ i : Nat, i < n → ∃ s : ByteArray, wo.cell? ⟨b, off + i, none⟩ = some (.string s) ∧ ((ss.take (i + 1)).any (fun s => L s == stageL k) = ((ss.take i).any (fun s => L s == stageL k) || (s.toList == q.toList))) := by
      intro wo hbo i hi
      have hk' : i < ss.length := by rw [HL.out]; exact hi
      refine ⟨ss[i], ?_, ?_⟩
      · rw [hbo.cell (p := ⟨b, off + i, none⟩) (by have := HB.out; show b < _; omega), HC.out i hi]; simp [hk']
      · rw [List.take_succ_eq_append_getElem hk', List.any_append, toList_L, toList_L, hqL]; simp
    have HI := Lib.hid inner
    clear hq hqL inner
    have d2 : (S (digs k)).size ≤ 3 := by have := digs_len 3 k (by omega); rw [S_size]; omega
    have hq0 : k = 0 → (⟨#[46, 115, 101, 97, 98, 97, 103]⟩ : ByteArray) = q := fun h0 => L_inj (by rw [HQL.out, h0]; rfl)
    have hq1 : ¬ k = 0 → (⟨#[46, 115, 101, 97, 98, 97, 103]⟩ : ByteArray) ++ ⟨#[45]⟩ ++ S (digs k) = q := fun h0 => L_inj (by rw [HQL.out, L_append, L_append, L_S]; simp [stageL, h0])
    have Q0 := Lib.hid hq0
    have Q1 := Lib.hid hq1
    clear hq0 hq1
    have body : ∀ found : Bool, found = (ss.take n).any (fun s => L s == stageL k) → (found = true → k < m) ∧ (found = false → k = m) := by
      intro found hf
      rw [List.take_of_length_le (by rw [HL.out]; exact Nat.le_refl _)] at hf
      have : found = decide (stageL k ∈ ss.map L) := by
        rw [hf, Bool.eq_iff_iff]; simp only [List.any_eq_true, beq_iff_eq, decide_eq_true_eq, List.mem_map]
      subst this
      constructor
      · intro ht
        have hin : stageL k ∈ ss.map L := by simpa using ht
        rcases Nat.lt_or_ge k m with h' | h'
        · exact h'
        · obtain rfl : k = m := by omega
          exact absurd hin H1.out
      · intro hf
        rcases Nat.lt_or_ge k m with h' | h'
        · have := H2.out k h'; simp [this] at hf
        · omega
    have HBD := Lib.hid body
    clear body
    by_cases hk0 : k = 0
    · go_wp2_with fail
      rw [Q0.out hk0]
      obtain ⟨wo, rfl⟩ : ∃ wo : World, wo = wr := ⟨_, rfl⟩
      go_loop [5, 6] (fun f i => ∃ (j : Nat) (fd : Bool), j ≤ n ∧ i = .int .i64 j ∧ f = .bool fd ∧ fd = (ss.take j).any (fun s => L s == stageL k)) (fun _ i => n - (intOf i).toNat)
      case atStart => exact ⟨0, false, by omega, rfl, rfl, by simp⟩
      case round =>
        obtain ⟨j, fd, hj, rfl, rfl, hfd⟩ := hrel
        have HFD := Lib.hid hfd
        clear hfd
        by_cases hlt : j < n
        · obtain ⟨s, hcell, hstep⟩ := HI.out wo hb j hlt
          have HST := Lib.hid hstep
          clear hstep
          cases fd
          all_goals go_wp2
          all_goals go_round
          all_goals first
            | exact ⟨j + 1, _, by omega, by go_num, rfl, by rw [HST.out, ← HFD.out]; simp⟩
            | (simp [intOf]; omega)
        · obtain rfl : j = n := by omega
          have hb2 := HBD.out fd HFD.out
          cases fd
          · have hkm := hb2.2 rfl
            go_wp2
            go_ret
            exact ⟨ret_string (by rw [HQ.out, hkm]), hb⟩
          · have hkm := hb2.1 rfl
            go_wp2
            go_roundw
            case rel => exact ⟨k + 1, by omega, by go_num, hb⟩
            case measure => simp [intOf]; omega
    · go_wp2_with fail
      refine (digits_any k _ (by omega)).mono ?_
      rintro e wo ⟨rfl, hb1⟩
      have hb3 := hb.trans (hb1.mono hbs)
      go_wp2_with fail
      rw [Q1.out hk0]
      go_loop [5, 6] (fun f i => ∃ (j : Nat) (fd : Bool), j ≤ n ∧ i = .int .i64 j ∧ f = .bool fd ∧ fd = (ss.take j).any (fun s => L s == stageL k)) (fun _ i => n - (intOf i).toNat)
      case atStart => exact ⟨0, false, by omega, rfl, rfl, by simp⟩
      case round =>
        obtain ⟨j, fd, hj, rfl, rfl, hfd⟩ := hrel
        have HFD := Lib.hid hfd
        clear hfd
        by_cases hlt : j < n
        · obtain ⟨s, hcell, hstep⟩ := HI.out wo hb3 j hlt
          have HST := Lib.hid hstep
          clear hstep
          cases fd
          all_goals go_wp2
          all_goals go_round
          all_goals first
            | exact ⟨j + 1, _, by omega, by go_num, rfl, by rw [HST.out, ← HFD.out]; simp⟩
            | (simp [intOf]; omega)
        · obtain rfl : j = n := by omega
          have hb2 := HBD.out fd HFD.out
          cases fd
          · have hkm := hb2.2 rfl
            go_wp2
            go_ret
            exact ⟨ret_string (by rw [HQ.out, hkm]), hb3⟩
          · have hkm := hb2.1 rfl
            go_wp2
            go_roundw
            case rel => exact ⟨k + 1, by omega, by go_num, hb3⟩
            case measure => simp [intOf]; omega


/-! ### that there is such a name -/
theorem digs_inj : ∀ (f m n : Nat), m ≤ f → digs m = digs n → m = n := by
  intro f
  induction f with
  | zero =>
    intro m n hm h
    obtain rfl : m = 0 := by omega
    rw [digs_lt (by omega)] at h
    by_cases hn : n < 10
    · rw [digs_lt hn] at h
      simp only [List.cons.injEq, and_true] at h
      have := congrArg UInt8.toNat h
      simp at this; omega
    · rw [digs_ge hn] at h
      have := congrArg List.length h
      have l : 0 < (digs (n / 10)).length := by rw [digs]; split <;> simp
      simp at this; rw [this] at l; simp at l
  | succ f ih =>
    intro m n hm h
    by_cases hm1 : m < 10
    · rw [digs_lt hm1] at h
      by_cases hn : n < 10
      · rw [digs_lt hn] at h
        simp only [List.cons.injEq, and_true] at h
        have := congrArg UInt8.toNat h
        simp at this; omega
      · rw [digs_ge hn] at h
        have := congrArg List.length h
        have l : 0 < (digs (n / 10)).length := by rw [digs]; split <;> simp
        simp at this; rw [this] at l; simp at l
    · rw [digs_ge hm1] at h
      by_cases hn : n < 10
      · rw [digs_lt hn] at h
        have := congrArg List.length h
        have l : 0 < (digs (m / 10)).length := by rw [digs]; split <;> simp
        simp at this; rw [this] at l; simp at l
      · rw [digs_ge hn] at h
        obtain ⟨h1, h2⟩ := List.append_inj' h rfl
        have h3 := ih (m / 10) (n / 10) (by omega) h1
        simp only [List.cons.injEq, and_true] at h2
        have := congrArg UInt8.toNat h2
        simp at this; omega

theorem stageL_inj {m n : Nat} (h : stageL m = stageL n) : m = n := by
  simp only [stageL] at h
  have h := List.append_cancel_left h
  by_cases hm : m = 0 <;> by_cases hn : n = 0
  · omega
  · simp [hm, hn] at h
  · simp [hm, hn] at h
  · simp only [hm, hn, if_false, List.cons.injEq, true_and] at h
    exact digs_inj m m n (Nat.le_refl _) h

/-- Whatever l is, one of the names 0 .. l.length isn't in it. -/
theorem stage_free : ∀ (n : Nat) (l : List (List UInt8)), l.length ≤ n → (∀ k, k ≤ n → stageL k ∈ l) → False := by
  intro n
  induction n with
  | zero =>
    intro l hl h
    have := h 0 (by omega)
    have : l = [] := List.length_eq_zero_iff.1 (by omega)
    subst this; simp_all
  | succ n ih =>
    intro l hl h
    have h1 := h (n + 1) (by omega)
    refine ih (l.erase (stageL (n + 1))) ?_ fun k hk => ?_
    · rw [List.length_erase_of_mem h1]; omega
    · exact (List.mem_erase_of_ne (fun e => by have := stageL_inj e; omega)).2 (h k (by omega))

theorem stage_least (l : List (List UInt8)) : ∃ m, m ≤ l.length ∧ stageL m ∉ l ∧ ∀ k, k < m → stageL k ∈ l := by
  have : ∀ n, (∃ m, m ≤ n ∧ stageL m ∉ l ∧ ∀ k, k < m → stageL k ∈ l) ∨ ∀ k, k ≤ n → stageL k ∈ l := by
    intro n
    induction n with
    | zero =>
      by_cases h : stageL 0 ∈ l
      · exact .inr fun k hk => by obtain rfl : k = 0 := by omega
                                  exact h
      · exact .inl ⟨0, by omega, h, fun k hk => by omega⟩
    | succ n ih =>
      rcases ih with ⟨m, h1, h2⟩ | ih
      · exact .inl ⟨m, by omega, h2⟩
      · by_cases h : stageL (n + 1) ∈ l
        · exact .inr fun k hk => by
            by_cases e : k = n + 1
            · rw [e]; exact h
            · exact ih k (by omega)
        · exact .inl ⟨n + 1, by omega, h, fun k hk => ih k (by omega)⟩
  rcases this l.length with h | h
  · exact h
  · exact (stage_free l.length l (Nat.le_refl _) h).elim

/-! ### the law -/
set_option maxHeartbeats 400000 in
theorem law_any (a : Option Addr) (n cap : Nat) (ss : List ByteArray) (w : World) (h : Elems w w.heap.size a n (ss.map .string)) :
    Calls Try.prog 3 #[.slice a n cap] w fun e w' => e = .returned (.bool true) ∧ Below w.heap.size w w' := by
  obtain ⟨m, hm1, hm2, hm3⟩ := stage_least (ss.map L)
  have hl : ss.length = n := by simpa using h.1
  rw [List.length_map, hl] at hm1
  have HL := Lib.hid hl
  have HM2 := Lib.hid hm2
  have HM3 := Lib.hid hm3
  have HE := Lib.hid h
  obtain ⟨b, off, hix, hB, hc⟩ := h.open (P := Try.prog) 22 9 Try.underlying22 (by kernel_rfl)
  have HC := Lib.hid hc
  have HB := Lib.hid hB
  clear hl hm2 hm3 h hc hB
  by_cases hsm : smallB ss = true
  · have hs2 : (∀ s ∈ ss, s.size ≤ 500) ∧ n ≤ 30 := by
      have := hsm
      simp only [smallB, Bool.and_eq_true, List.all_eq_true, decide_eq_true_eq] at this
      rw [← HL.out]; exact this
    have HS := Lib.hid hs2.1
    have hn := hs2.2
    clear hs2
    go_enter Try.func3, Try.ntmps3
    go_wp2_with fail
    refine (anchor_any _).mono ?_
    rintro e w1 ⟨rfl, hb1⟩
    go_wp2_with fail
    refine (small_any _ _ _ w.heap.size ss _ (HE.out.below hb1)).mono ?_
    rintro e w1' ⟨rfl, rfl⟩
    go_wp2_with fail
    refine (stage_any _ _ _ ss _ ((HE.out.below hb1).mono hb1.size) hn HS.out m hm1 HM2.out HM3.out).mono ?_
    rintro e w2 ⟨rfl, hb2⟩
    have hb3 := hb1.trans (hb2.mono hb1.size)
    go_wp2_with fail
    go_loop [15] (fun i => ∃ k : Nat, k ≤ n ∧ i = .int .i64 k) (fun i => n - (intOf i).toNat)
    case atStart => exact ⟨0, by omega, rfl⟩
    case round =>
      obtain ⟨k, hk, rfl⟩ := hrel
      by_cases hlt : k < n
      · have hk' : k < ss.length := by rw [HL.out]; exact hlt
        obtain ⟨s, hs⟩ : ∃ s, s = ss[k] := ⟨_, rfl⟩
        have hcell : w2.cell? ⟨b, off + k, none⟩ = some (.string s) := by
          rw [hb3.cell (p := ⟨b, off + k, none⟩) (by have := HB.out; show b < _; omega), HC.out k hlt, hs]; simp [hk']
        have hne : (s.toList == (S (stageL m)).toList) = false := by
          rw [beq_eq_false_iff_ne, toList_L, toList_L, L_S]
          intro e
          exact HM2.out (List.mem_map.2 ⟨s, by rw [hs]; exact List.getElem_mem _, e⟩)
        clear hs hk'
        go_wp2_with fail
        go_round
        case rel => exact ⟨k + 1, by omega, by go_num⟩
        case measure => simp [intOf]; omega
      · obtain rfl : k = n := by omega
        go_wp2_with fail
        refine (refStage_any _ _ _ ss _ ((HE.out.below hb3).mono hb3.size) hn m hm1 HM2.out HM3.out).mono ?_
        rintro e w3 ⟨rfl, hb4⟩
        go_wp2_with fail
        go_ret
        exact ⟨ret_bool (by simp), hb3.trans (hb4.mono hb3.size)⟩
  · have hsm' : smallB ss = false := by simpa using hsm
    go_enter Try.func3, Try.ntmps3
    go_wp2_with fail
    refine (anchor_any _).mono ?_
    rintro e w1 ⟨rfl, hb1⟩
    go_wp2_with fail
    refine (small_any _ _ _ w.heap.size ss _ (HE.out.below hb1)).mono ?_
    rintro e w1' ⟨rfl, rfl⟩
    rw [hsm']
    go_wp2_with fail
    go_ret
    exact ⟨rfl, hb1⟩

end Go.Proofs.Ytkeinpifbiiodaa
