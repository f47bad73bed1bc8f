/-
  Walks for TagStages: number, Digits, Join of nothing and a name, the two Stages.
-/
import Derived.Test.YtkeinpifbiiodaaW1
import Derived.Maps.OwnOps
import Derived.Maps.OwnSet
namespace Go.Proofs.Ytkeinpifbiiodaa
open Go.RowKit

/-- The digits of a number. -/
def digs (n : Nat) : List UInt8 := if n < 10 then [UInt8.ofNat (48 + n)] else digs (n / 10) ++ [UInt8.ofNat (48 + n % 10)]
theorem digs_lt {n : Nat} (h : n < 10) : digs n = [UInt8.ofNat (48 + n)] := by rw [digs, if_pos h]
theorem digs_ge {n : Nat} (h : ¬ n < 10) : digs n = digs (n / 10) ++ [UInt8.ofNat (48 + n % 10)] := by rw [digs, if_neg h]
theorem digs_len (k : Nat) : ∀ n, n < 10 ^ k → (digs n).length ≤ k ∨ k = 0 := by
  induction k with
  | zero => exact fun _ _ => .inr rfl
  | succ k ih =>
    intro n hn
    by_cases h : n < 10
    · rw [digs_lt h]; simp
    · rw [digs_ge h]
      have := ih (n / 10) (by rw [Nat.pow_succ] at hn; omega)
      simp
      rcases this with h' | h'
      · exact h'
      · subst h'; simp at hn; omega

set_option maxHeartbeats 400000 in
theorem number_any (f : Nat) : ∀ (n : Nat) (w : World), n ≤ f → n < 1000000 →
    Calls Try.prog 19 #[.int .i64 n] w fun e w' => e = .returned (.string (S (digs n))) ∧ Below w.heap.size w w' := by
  induction f with
  | zero =>
    intro n w h h1
    obtain rfl : n = 0 := by omega
    go_enter Try.func19, Try.ntmps19
    go_wp2_with fail
    go_ret
    exact ⟨ret_string (by rw [digs_lt (by omega)]; rfl), by go_grown⟩
  | succ f ih =>
    intro n w h h1
    by_cases hn : n < 10
    · go_enter Try.func19, Try.ntmps19
      go_wp2_with fail
      go_ret
      exact ⟨ret_string (by rw [digs_lt hn]; simp [S]), by go_grown⟩
    · have l1 := digs_len 6 (n / 10) (by omega)
      have l2 := digs_len 6 (n % 10) (by omega)
      have s1 : (S (digs (n / 10))).size ≤ 6 := by rw [S_size]; omega
      have s2 : (S (digs (n % 10))).size ≤ 6 := by rw [S_size]; omega
      clear l1 l2
      go_enter Try.func19, Try.ntmps19
      go_wp2_with fail
      refine (ih (n / 10) _ (by omega) (by omega)).mono ?_
      rintro e w1 ⟨rfl, hb1⟩
      go_wp2_with fail
      refine (ih (n % 10) _ (by omega) (by omega)).mono ?_
      rintro e w2 ⟨rfl, hb2⟩
      go_wp2_with fail
      go_ret
      exact ⟨ret_string (by rw [digs_ge hn, S_append, digs_lt (n := n % 10) (by omega)]), hb1.trans (hb2.mono hb1.size)⟩

set_option maxHeartbeats 400000 in
theorem digits_any (n : Nat) (w : World) (h1 : n < 1000000) :
    Calls Try.prog 20 #[.int .u64 n] w fun e w' => e = .returned (.string (S (digs n))) ∧ Below w.heap.size w w' := by
  go_enter Try.func20, Try.ntmps20
  go_wp2
  go_loopw [0, 3] (fun m o wr => ∃ (k : Nat) (t : ByteArray), k ≤ n ∧ m = .int .u64 k ∧ o = .string t ∧ k + t.size ≤ n ∧ digs n = digs k ++ L t ∧ Below w.heap.size w wr) (fun m _ _ => (intOf m).toNat)
  case atStart => exact ⟨n, ⟨#[]⟩, Nat.le_refl _, rfl, rfl, by simp, by simp, Below.refl _ _⟩
  case round =>
    obtain ⟨k, t, hk, rfl, rfl, ht, hd, hb⟩ := hrel
    have HD := Lib.hid hd
    have hbs := hb.size
    clear hd
    by_cases hlt : k < 10
    · go_wp2
      go_ret
      exact ⟨ret_string (L_inj (by rw [HD.out, L_append, L_S, digs_lt hlt]; simp)), by go_grown⟩
    · go_wp2
      go_roundw
      case rel => exact ⟨k / 10, _, by omega, by go_num, rfl, by simp; omega, by rw [HD.out, L_append, digs_ge hlt]; simp, by go_grown⟩
      case measure => simp [intOf]; omega

set_option maxHeartbeats 400000 in
/-- Nothing joined with a name is the name. -/
theorem join_none (s : ByteArray) (w : World) :
    Calls Try.prog 18 #[.string ⟨#[]⟩, .string s] w fun e w' => e = .returned (.string s) ∧ w = w' := by
  go_enter Try.func18, Try.ntmps18
  go_wp2_with fail
  go_ret
  exact ⟨rfl, rfl⟩

/-- The k-th name. -/
def stageL (k : Nat) : List UInt8 := [46, 115, 101, 97, 98, 97, 103] ++ (if k = 0 then [] else 45 :: digs k)

theorem ownsMap_below {H : Type} {P : Program} {w w' : World} {k : TypeId} {R : Value → Option (DataW H × List MemPlace)} {b n : Nat} {D : DataW H} (h : w.ownsMap P k R b n D) (hb : Below w.heap.size w w') : w'.ownsMap P k R b n D := by
  have hlt := h.lt
  obtain ⟨es, clock, h0, F, hs, hD⟩ := h
  exact ⟨es, clock, (hb.block b hlt).trans h0, F, hs, hD⟩

theorem zero3 (w : World) : (zeroValue 3).run Try.prog w = .ok (.int .i64 0) w := by kernel_rfl

/-- The map in block b holds how often each of the names stands in l. -/
def Counts (w : World) (b : Nat) (l : List (List UInt8)) : Prop :=
  ∃ D : DataW Unit, w.ownsMap Try.prog 9 (plainElem Try.prog 3) b l.length D ∧ ∀ t : List UInt8, D.atKey (.string t) (.lit (.int .i64 0)) = .lit (.int .i64 (l.count t : Nat))

theorem Counts.below {w w' : World} {b : Nat} {l : List (List UInt8)} (h : Counts w b l) (hb : Below w.heap.size w w') : Counts w' b l := by
  obtain ⟨D, h1, h2⟩ := h
  exact ⟨D, ownsMap_below h1 hb, h2⟩

theorem counts_step {w : World} {b : Nat} {l : List (List UInt8)} {D : DataW Unit} {s : List UInt8} (h0 : Maps.IsMap D) (h : ∀ t : List UInt8, D.atKey (.string t) (.lit (.int .i64 0)) = .lit (.int .i64 (l.count t : Nat)))
    (hown : w.ownsMap Try.prog 9 (plainElem Try.prog 3) b (l.length + 1) (D.put (.string s) (.lit (.int .i64 ((l.count s : Nat) + 1))))) : Counts w b (l ++ [s]) := by
  refine ⟨_, by simpa using hown, fun t => ?_⟩
  by_cases e : t = s
  · subst e
    rw [Maps.atKey_put_same h0 (by simp [WideAt.IsKeyLit])]
    simp
  · rw [Maps.atKey_put_other (by intro h'; injection h' with h'; exact e h'), h t]
    simp [List.count_append, Ne.symm e]

theorem Counts.look {w : World} {b : Nat} {l : List (List UInt8)} (h : Counts w b l) (s : ByteArray) (hs : s.size ≤ maxLen) :
    (Instr.lookup 41 (.map (some b)) (.string s) false).run Try.prog w = .ok (.int .i64 (l.count (L s) : Nat)) w := by
  obtain ⟨D, h1, h2⟩ := h
  obtain ⟨c, hr, hc, -⟩ := h1.lookup_int (t := 41) (Maps.string_keyed Try.underlying9) Try.underlying41 Try.underlying3 (zero3 _) (WideMaps.keyOf_string_mk Try.underlying9 hs)
  have := h2 (L s)
  rw [hr]
  rw [L] at this
  rw [hc] at this
  simp only [DataW.lit.injEq, Lit.int.injEq, true_and] at this
  rw [this, L]

theorem stageL_len (k : Nat) (h : k < 1000) : (stageL k).length ≤ 11 := by
  have := digs_len 3 k (by omega)
  simp only [stageL]
  split <;> simp <;> omega

theorem stage_next (k : Nat) : (⟨#[46, 115, 101, 97, 98, 97, 103, 45]⟩ : ByteArray) ++ S (digs (k + 1)) = S (stageL (k + 1)) :=
  L_inj (by rw [L_append, L_S, L_S]; simp [stageL])

set_option maxHeartbeats 800000 in
theorem stage_any (a : Option Addr) (n cap : Nat) (ss : List ByteArray) (w : World) (h : Elems w w.heap.size a n (ss.map .string)) (hn : n ≤ 30) (hsz : ∀ s ∈ ss, s.size ≤ 500)
    (m : Nat) (hm : m ≤ n) (h1 : stageL m ∉ ss.map L) (h2 : ∀ k, k < m → stageL k ∈ ss.map L) :
    Calls Try.prog 9 #[.slice a n cap] w fun e w' => e = .returned (.string (S (stageL m))) ∧ Below w.heap.size w w' := by
  obtain ⟨b, off, hix, hB, hc⟩ := h.open (P := Try.prog) 22 9 Try.underlying22 (by kernel_rfl)
  have hl : ss.length = n := by simpa using h.1
  have HL := Lib.hid hl
  have HC := Lib.hid hc
  have HB := Lib.hid hB
  have H1 := Lib.hid h1
  have H2 := Lib.hid h2
  have HS := Lib.hid hsz
  clear hl hc h hB h1 h2 hsz
  have hmm := @run_makeMap Try.prog
  go_enter Try.func9, Try.ntmps9
  go_wp2
  refine wp_scope_again 0 (fun a' w' => ∃ k : Nat, k ≤ m ∧ ∃ (u1 u4 u5 u8 u9 u10 u11 u12 u13 u14 u15 u16 u17 u18 u19 u20 u21 u22 u23 u24 u25 u26 u27 u28 u29 u30 : Value), a' = { tmps := #[.slice a n cap, u1, .string ⟨#[]⟩, .map (some w.heap.size), u4, u5, .string (S (stageL k)), .int .i64 k, u8, u9, u10, u11, u12, u13, u14, u15, u16, u17, u18, u19, u20, u21, u22, u23, u24, u25, u26, u27, u28, u29, u30], defers := [] } ∧ Counts w' w.heap.size (ss.map L) ∧ w.heap.size < w'.heap.size ∧ Below w.heap.size w w')
    (fun a' _ => m - (intOf (a'.tmps.getD 7 undef)).toNat) rfl ?_ ?_
  · rintro a' wr ⟨k, hk, u1, u4, u5, u8, u9, u10, u11, u12, u13, u14, u15, u16, u17, u18, u19, u20, u21, u22, u23, u24, u25, u26, u27, u28, u29, u30, rfl, hC, hz, hb⟩
    have l1 := stageL_len k (by omega)
    have l2 := stageL_len (k + 1) (by omega)
    have d2 : (S (digs (k + 1))).size ≤ 3 := by have := digs_len 3 (k + 1) (by omega); rw [S_size]; omega
    by_cases hkm : k = m
    · subst hkm
      have hz0 : (ss.map L).count (stageL k) = 0 := List.count_eq_zero.2 H1.out
      have hlk := hC.look (S (stageL k)) (by show (stageL k).length ≤ _; unfold maxLen; omega)
      rw [L_S, hz0] at hlk
      clear hz0
      go_wp2
      simp only [Exit.jump]
      go_ret
      exact ⟨rfl, hb⟩
    · have hin := H2.out k (by omega)
      have hz0 : 0 < (ss.map L).count (stageL k) := List.count_pos_iff.2 hin
      obtain ⟨c, hc⟩ : ∃ c, c = (ss.map L).count (stageL k) := ⟨_, rfl⟩
      have hlk := hC.look (S (stageL k)) (by show (stageL k).length ≤ _; unfold maxLen; omega)
      rw [L_S, ← hc] at hlk
      rw [← hc] at hz0
      have hc0 : ((c : Int) == 0) = false := by rw [beq_eq_false_iff_ne]; omega
      clear hc hin
      have SN := Lib.hid (stage_next k)
      go_wp2_with fail
      refine (number_any (k + 1) (k + 1) _ (by omega) (by omega)).mono ?_
      rintro e w1 ⟨rfl, hb1⟩
      go_wp2_with fail
      rw [SN.out]
      refine (join_none _ _).mono ?_
      rintro e w2 ⟨rfl, rfl⟩
      go_wp2_with fail
      go_step3
      have hb2 := hb1.size
      refine ⟨rfl, ⟨k + 1, by omega, _, _, _, _, _, _, _, _, _, _, _, _, _, _, _, _, _, _, _, _, _, _, _, _, _, _, rfl, hC.below hb1, by omega, hb.trans (hb1.mono (by omega))⟩, ?_⟩
      simp [intOf]
      omega
  · intro hR
    go_wp2
    go_loopw [11] (fun i wr => ∃ k : Nat, k ≤ n ∧ i = .int .i64 k ∧ Counts wr w.heap.size ((ss.map L).take k) ∧ w.heap.size < wr.heap.size ∧ Below w.heap.size w wr) (fun i _ => n - (intOf i).toNat)
    case atStart => exact ⟨0, by omega, rfl, ⟨.map [], World.ownsMap_made _ _ _ _, fun t => by simp [DataW.atKey]⟩, by simp, by go_grown⟩
    case round =>
      obtain ⟨k, hk, rfl, hC, hz, hb⟩ := hrel
      by_cases hlt : k < n
      · have hk' : k < ss.length := by rw [HL.out]; exact hlt
        obtain ⟨s, hs⟩ : ∃ s, s = ss[k] := ⟨_, rfl⟩
        have hsm : s.size ≤ 500 := HS.out s (by rw [hs]; exact List.getElem_mem _)
        have hcell : wr.cell? ⟨b, off + k, none⟩ = some (.string s) := by
          rw [hb.cell (p := ⟨b, off + k, none⟩) (by have := HB.out; show b < _; omega), HC.out k hlt, hs]; simp [hk']
        have ht : (ss.map L).take (k + 1) = (ss.map L).take k ++ [L s] := by rw [List.take_succ_eq_append_getElem (by simpa using hk'), hs]; simp
        have HT := Lib.hid ht
        have hll : ((ss.map L).take k).length = k := by simp; omega
        have HLL := Lib.hid hll
        have hcl : ((ss.map L).take k).count (L s) ≤ k := by have := List.count_le_length (a := L s) (l := (ss.map L).take k); omega
        have hlk := hC.look s (by unfold maxLen; omega)
        obtain ⟨c, hc⟩ : ∃ c, c = ((ss.map L).take k).count (L s) := ⟨_, rfl⟩
        rw [← hc] at hlk hcl
        have HCC := Lib.hid hc
        obtain ⟨D, hown, hD⟩ := hC
        rw [hll] at hown
        have HD := Lib.hid hD
        have hkey := WideMaps.keyOf_string_mk (P := Try.prog) Try.underlying9 (s := s) (by unfold maxLen; omega)
        have HK := Lib.hid hkey
        have hbs := hb.size
        clear ht hll hc hD hkey hs hk'
        go_wp2_with (at_mapUpdate; refine wpList_mapUpdate_own _ rfl _ _ _ 41 rfl 9 3 (Maps.string_keyed Try.underlying9) Try.underlying41 _ w.heap.size k _ rfl hown (by unfold maxLen; omega) _ _ _ rfl rfl HK.out _ [] (plainElem_int Try.underlying3 (WalkArith.wf_i64 (by omega))) ?_; intro w1 hown1 hgrow1)
        go_roundw
        case rel =>
          refine ⟨k + 1, by omega, by go_num, ?_, by have := hgrow1.size; omega, hb.grown hgrow1 hbs (fun j hj => by cases hj; exact Nat.le_refl _)⟩
          rw [HT.out]
          refine counts_step hown.isMap HD.out ?_
          rw [HLL.out, ← HCC.out]
          exact hown1
        case measure => simp [intOf]; omega
      · obtain rfl : k = n := by omega
        rw [List.take_of_length_le (by simp [HL.out])] at hC
        go_wp2
        go_step3
        go_step
        go_step
        exact hR.out _ _ ⟨0, by omega, _, _, _, _, _, _, _, _, _, _, _, _, _, _, _, _, _, _, _, _, _, _, _, _, _, _, rfl, hC, hz, hb⟩

end Go.Proofs.Ytkeinpifbiiodaa
