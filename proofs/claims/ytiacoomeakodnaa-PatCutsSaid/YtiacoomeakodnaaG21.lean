/-
  What is cut away: the plain law; Cut and the document's Cut: the walks.
-/
import Derived.Test.YtiacoomeakodnaaG20
import Derived.Test.YtiacoomeakodnaaG11
namespace Go.Proofs.Ytiacoomeakodnaa
open Go.RowKit

/-- The least, or greatest, number up to len of which m holds. -/
def IsBest (m : Nat → Bool) (len : Nat) (long : Bool) : Option Nat → Prop
  | none => ∀ n, n ≤ len → m n = false
  | some b => b ≤ len ∧ m b = true ∧ ∀ n, n ≤ len → m n = true → if long then n ≤ b else b ≤ n
theorem best_ex (m : Nat → Bool) (long : Bool) : ∀ len, ∃ o, IsBest m len long o
  | 0 => by
    cases h : m 0 with
    | false => exact ⟨none, fun n hn => by obtain rfl : n = 0 := by omega
                                           exact h⟩
    | true => exact ⟨some 0, Nat.le_refl _, h, fun n hn _ => by cases long <;> simp <;> omega⟩
  | len + 1 => by
    obtain ⟨o, ho⟩ := best_ex m long len
    cases h : m (len + 1) with
    | false =>
      refine ⟨o, ?_⟩
      cases o with
      | none =>
        intro n hn
        by_cases e : n = len + 1
        · rw [e]; exact h
        · exact ho n (by omega)
      | some b =>
        refine ⟨by have := ho.1; omega, ho.2.1, fun n hn hm => ?_⟩
        by_cases e : n = len + 1
        · rw [e, h] at hm; cases hm
        · exact ho.2.2 n (by omega) hm
    | true =>
      cases o with
      | none =>
        refine ⟨some (len + 1), Nat.le_refl _, h, fun n hn hm => ?_⟩
        by_cases e : n = len + 1
        · rw [e]; cases long <;> simp
        · rw [ho n (by omega)] at hm; cases hm
      | some b =>
        cases long with
        | true => exact ⟨some (len + 1), Nat.le_refl _, h, fun n hn _ => by simpa using hn⟩
        | false =>
          refine ⟨some b, by have := ho.1; omega, ho.2.1, fun n hn hm => ?_⟩
          by_cases e : n = len + 1
          · have := ho.1
            simp; omega
          · exact ho.2.2 n (by omega) hm
/-- The part of n bytes that is held against the pattern. -/
def cutPart (s : List UInt8) (en : Bool) (n : Nat) : List UInt8 := if en then s.drop (s.length - n) else s.take n
/-- What is left. -/
def cutLeft (s : ByteArray) (en : Bool) : Option Nat → ByteArray
  | none => s
  | some n => if en then s.extract 0 (s.size - n) else s.extract n s.size

theorem best_uniq_some {m : Nat → Bool} {len : Nat} {long : Bool} {o : Option Nat} (ho : IsBest m len long o) {b : Nat} (hb : b ≤ len) (hm : m b = true) (h : ∀ n, n ≤ len → m n = true → if long then n ≤ b else b ≤ n) : o = some b := by
  cases o with
  | none => rw [ho b hb] at hm; cases hm
  | some c =>
    have h1 := h c ho.1 ho.2.1
    have h2 := ho.2.2 b hb hm
    cases long <;> simp at h1 h2 <;> rw [show c = b by omega]
theorem best_uniq_none {m : Nat → Bool} {len : Nat} {long : Bool} {o : Option Nat} (ho : IsBest m len long o) (h : ∀ n, n ≤ len → m n = false) : o = none := by
  cases o with
  | none => rfl
  | some c => have := h c ho.1; rw [ho.2.1] at this; cases this

set_option maxHeartbeats 4000000 in
set_option maxRecDepth 100000 in
theorem cut_any (v : Value) (l : List Pt) (s : ByteArray) (en lg : Bool) (w : World) (hp : PatAt w w.heap.size v l) (hln : l.length ≤ 100000) (hs : s.size ≤ 1000) (o : Option Nat) (ho : IsBest (fun n => matchP l (cutPart (L s) en n)) s.size lg o) :
    Calls Try.prog 18 #[.agg #[v], .string s, .bool en, .bool lg] w fun e w' => e = .returned (.string (cutLeft s en o)) ∧ Below w.heap.size w w' := by
  obtain ⟨m, hm⟩ : ∃ m : Nat → Bool, m = fun n => matchP l (cutPart (L s) en n) := ⟨_, rfl⟩
  rw [← hm] at ho
  have CM : Hid (∀ W, Below w.heap.size w W → ∀ (s' : ByteArray) (r : Bool), s'.size ≤ 100000 → matchP l (L s') = r → Calls Try.prog 10 #[.agg #[v], .string s'] W fun e w' => e = .returned (.bool r) ∧ Below W.heap.size W w') := Lib.hid fun W hW s' r h1 h2 => by
    rw [← h2]; exact match_any v l s' W ((hp.below hW).mono hW.size) hln h1
  obtain ⟨a, cap, rfl, hl⟩ := hp.shape
  have HO := Lib.hid ho
  have HM := Lib.hid hm
  clear hp ho hm hln hl
  obtain ⟨f, hf⟩ : ∃ f : Nat → Nat, f = fun i => if lg then s.size - i else i := ⟨_, rfl⟩
  have hfi : ∀ i, i ≤ s.size → f i ≤ s.size := fun i hi => by rw [hf]; cases lg <;> simp <;> omega
  have hend : ∀ (b : Nat), b ≤ s.size → m b = true → ∀ k, k ≤ s.size → f k = b → (∀ j, j < k → m (f j) = false) → o = some b := fun b hb hmb k hk hfk hno => by
    refine best_uniq_some HO.out hb hmb fun n hn hmn => ?_
    rw [hf] at hfk hno
    cases lg with
    | true =>
      simp at hfk hno ⊢
      rcases Nat.lt_or_ge b n with h | h
      · have h2 := hno (s.size - n) (by omega)
        rw [show s.size - (s.size - n) = n by omega, hmn] at h2; cases h2
      · exact h
    | false =>
      simp at hfk hno ⊢
      rcases Nat.lt_or_ge n b with h | h
      · have h2 := hno n (by omega)
        rw [hmn] at h2; cases h2
      · exact h
  have hnone : (∀ j, j < s.size + 1 → m (f j) = false) → o = none := fun hno => by
    refine best_uniq_none HO.out fun n hn => ?_
    have h1 := hno (f n) (by have := hfi n hn; omega)
    rw [hf] at h1
    cases lg with
    | true => simp at h1; rw [show s.size - (s.size - n) = n by omega] at h1; exact h1
    | false => simpa using h1
  have HEND := Lib.hid hend
  have HNONE := Lib.hid hnone
  have HFI := Lib.hid hfi
  have HF := Lib.hid hf
  clear hf hfi hend hnone HO
  cases en with
  | false =>
    cases lg with
    | false =>
      go_enter Try.func18, Try.ntmps18
      go_wp2_with fail
      go_loopw [13] (fun i wr => ∃ k : Nat, k ≤ s.size + 1 ∧ i = .int .i64 k ∧ (∀ j, j < k → m (f j) = false) ∧ wr.cell? ⟨w.heap.size, 0, none⟩ = some (.slice a l.length cap) ∧ w.heap.size < wr.heap.size ∧ Below w.heap.size w wr) (fun i _ => s.size + 1 - (intOf i).toNat)
      case atStart => exact ⟨0, Nat.zero_le _, rfl, fun j h => by omega, (Blk.new w 26 #[.slice a l.length cap]).cell 0, by simp, Below.alloc (Below.refl _ _) (Nat.le_refl _) _⟩
      case round =>
        obtain ⟨i, hi, rfl, hno, hcwr, hzwr, hb⟩ := hrel
        have Hwr := Lib.hid hb
        have HNO := Lib.hid hno
        clear hno hb
        by_cases hlt : i < s.size + 1
        · obtain ⟨nn, hnn⟩ : ∃ nn, nn = f i := ⟨_, rfl⟩
          have hns : nn ≤ s.size := by rw [hnn]; exact HFI.out i (by omega)
          obtain ⟨r, hr⟩ : ∃ r, m nn = r := ⟨_, rfl⟩
          have hlt2 : (i : Int) < (s.size : Int) + 1 := by omega
          obtain ⟨mm, hmm⟩ : ∃ mm, mm = s.size - nn := ⟨_, rfl⟩
          have hw : ((s.size : Nat) : Int) - ((nn : Nat) : Int) = ((mm : Nat) : Int) := by omega
          have hms : mm ≤ s.size := by omega
          obtain rfl : nn = i := by rw [hnn, HF.out]; simp
          have HNN := Lib.hid hnn.symm
          have HMR := Lib.hid hr
          have HMM := Lib.hid hmm
          clear hnn hr hmm
          have hsl : ∀ w' : World, (Instr.slice 9 (.string s) none (some (.int .i64 ((nn : Nat) : Int))) none).run Try.prog w' = .ok (.string (s.extract 0 nn)) w' := fun w' => run_sl_to Try.underlying9 s _ nn rfl hns w'
          have HPART : Hid (matchP l (L (s.extract 0 nn)) = r) := Lib.hid (by
            rw [← HMR.out, HM.out, S_extract_to, L_S]; rfl)
          cases r with
          | true =>
            have ho : o = some nn := HEND.out nn hns HMR.out nn (by omega) HNN.out HNO.out
            subst ho
            clear HEND HNONE
            go_wp2
            refine wp_region_quiet_below (by kernel_rfl) (by kernel_rfl) ?_
            repeat (go_big_quiet_step (with_reducible first | exact CF.out _ _))
            refine wpQuiet_nil ?_
            intro w6 hw'
            have hb6 : Below wr.heap.size wr w6 := by
              obtain ⟨⟨dq, osq⟩, hw''⟩ := hw'
              rw [hw'']; exact below_regrown _ _ _
            have Hw6 := Lib.hid (Hwr.out.trans (hb6.mono Hwr.out.size))
            have hcw6 := (hb6.cell (p := ⟨w.heap.size, 0, none⟩) hzwr).trans hcwr
            have hzw6 : w.heap.size < w6.heap.size := Nat.lt_of_lt_of_le hzwr hb6.size
            clear hw' hb6
            go_wp2
            have hcg : ∀ d os, (Sort.grow (redrawn w6 d) os).cell? ⟨w.heap.size, 0, none⟩ = some (.slice a l.length cap) := fun d os => cell_regrown hcw6 d os
            have CF : Hid (∀ d os, Calls Try.prog 10 #[.agg #[.slice a l.length cap], .string (s.extract 0 nn)] (Sort.grow (redrawn w6 d) os) fun e w'' => e = .returned (.bool true) ∧ ∃ q : Regrown, w'' = Sort.grow (redrawn w6 q.d) q.os) := Lib.hid fun d os =>
              Calls.regrown_of (CM.out _ (Hw6.out.trans ((below_regrown w6 d os).mono Hw6.out.size)) _ _ (by have := extract_len s 0 nn; omega) HPART.out)
            refine wp_region_quiet_below (by kernel_rfl) (by kernel_rfl) ?_
            repeat (go_big_quiet_step (with_reducible first | exact CF.out _ _))
            refine wpQuiet_nil ?_
            intro w7 hw'
            have hb6 : Below w6.heap.size w6 w7 := by
              obtain ⟨⟨dq, osq⟩, hw''⟩ := hw'
              rw [hw'']; exact below_regrown _ _ _
            have Hw7 := Lib.hid (Hw6.out.trans (hb6.mono Hw6.out.size))
            have hcw7 := (hb6.cell (p := ⟨w.heap.size, 0, none⟩) hzw6).trans hcw6
            have hzw7 : w.heap.size < w7.heap.size := Nat.lt_of_lt_of_le hzw6 hb6.size
            clear hw' hb6
            clear hcg hsl
            go_wp2
            go_ret
            exact ⟨rfl, Hw7.out⟩
          | false =>
            go_wp2
            refine wp_region_quiet_below (by kernel_rfl) (by kernel_rfl) ?_
            repeat (go_big_quiet_step (with_reducible first | exact CF.out _ _))
            refine wpQuiet_nil ?_
            intro w6 hw'
            have hb6 : Below wr.heap.size wr w6 := by
              obtain ⟨⟨dq, osq⟩, hw''⟩ := hw'
              rw [hw'']; exact below_regrown _ _ _
            have Hw6 := Lib.hid (Hwr.out.trans (hb6.mono Hwr.out.size))
            have hcw6 := (hb6.cell (p := ⟨w.heap.size, 0, none⟩) hzwr).trans hcwr
            have hzw6 : w.heap.size < w6.heap.size := Nat.lt_of_lt_of_le hzwr hb6.size
            clear hw' hb6
            go_wp2
            have hcg : ∀ d os, (Sort.grow (redrawn w6 d) os).cell? ⟨w.heap.size, 0, none⟩ = some (.slice a l.length cap) := fun d os => cell_regrown hcw6 d os
            have CF : Hid (∀ d os, Calls Try.prog 10 #[.agg #[.slice a l.length cap], .string (s.extract 0 nn)] (Sort.grow (redrawn w6 d) os) fun e w'' => e = .returned (.bool false) ∧ ∃ q : Regrown, w'' = Sort.grow (redrawn w6 q.d) q.os) := Lib.hid fun d os =>
              Calls.regrown_of (CM.out _ (Hw6.out.trans ((below_regrown w6 d os).mono Hw6.out.size)) _ _ (by have := extract_len s 0 nn; omega) HPART.out)
            refine wp_region_quiet_below (by kernel_rfl) (by kernel_rfl) ?_
            repeat (go_big_quiet_step (with_reducible first | exact CF.out _ _))
            refine wpQuiet_nil ?_
            intro w7 hw'
            have hb6 : Below w6.heap.size w6 w7 := by
              obtain ⟨⟨dq, osq⟩, hw''⟩ := hw'
              rw [hw'']; exact below_regrown _ _ _
            have Hw7 := Lib.hid (Hw6.out.trans (hb6.mono Hw6.out.size))
            have hcw7 := (hb6.cell (p := ⟨w.heap.size, 0, none⟩) hzw6).trans hcw6
            have hzw7 : w.heap.size < w7.heap.size := Nat.lt_of_lt_of_le hzw6 hb6.size
            clear hw' hb6
            clear hcg hsl
            go_wp2
            go_roundw
            case rel => exact ⟨nn + 1, by omega, by go_num, fun j h => by
              by_cases e : j = nn
              · subst e; rw [HNN.out, HMR.out]
              · exact HNO.out j (by omega), hcw7, hzw7, Hw7.out⟩
            case measure => simp [intOf]; omega
        · have hR : o = none := HNONE.out fun j hj => HNO.out j (by omega)
          subst hR
          clear HEND HNONE
          go_wp2
          go_ret
          exact ⟨rfl, Hwr.out⟩
    | true =>
      go_enter Try.func18, Try.ntmps18
      go_wp2_with fail
      go_loopw [13] (fun i wr => ∃ k : Nat, k ≤ s.size + 1 ∧ i = .int .i64 k ∧ (∀ j, j < k → m (f j) = false) ∧ wr.cell? ⟨w.heap.size, 0, none⟩ = some (.slice a l.length cap) ∧ w.heap.size < wr.heap.size ∧ Below w.heap.size w wr) (fun i _ => s.size + 1 - (intOf i).toNat)
      case atStart => exact ⟨0, Nat.zero_le _, rfl, fun j h => by omega, (Blk.new w 26 #[.slice a l.length cap]).cell 0, by simp, Below.alloc (Below.refl _ _) (Nat.le_refl _) _⟩
      case round =>
        obtain ⟨i, hi, rfl, hno, hcwr, hzwr, hb⟩ := hrel
        have Hwr := Lib.hid hb
        have HNO := Lib.hid hno
        clear hno hb
        by_cases hlt : i < s.size + 1
        · obtain ⟨nn, hnn⟩ : ∃ nn, nn = f i := ⟨_, rfl⟩
          have hns : nn ≤ s.size := by rw [hnn]; exact HFI.out i (by omega)
          obtain ⟨r, hr⟩ : ∃ r, m nn = r := ⟨_, rfl⟩
          have hlt2 : (i : Int) < (s.size : Int) + 1 := by omega
          obtain ⟨mm, hmm⟩ : ∃ mm, mm = s.size - nn := ⟨_, rfl⟩
          have hw : ((s.size : Nat) : Int) - ((nn : Nat) : Int) = ((mm : Nat) : Int) := by omega
          have hms : mm ≤ s.size := by omega
          have hv : ((s.size : Nat) : Int) - ((i : Nat) : Int) = ((nn : Nat) : Int) := by rw [hnn, HF.out]; simp; omega
          have HNN := Lib.hid hnn.symm
          have HMR := Lib.hid hr
          have HMM := Lib.hid hmm
          clear hnn hr hmm
          have hsl : ∀ w' : World, (Instr.slice 9 (.string s) none (some (.int .i64 ((nn : Nat) : Int))) none).run Try.prog w' = .ok (.string (s.extract 0 nn)) w' := fun w' => run_sl_to Try.underlying9 s _ nn rfl hns w'
          have HPART : Hid (matchP l (L (s.extract 0 nn)) = r) := Lib.hid (by
            rw [← HMR.out, HM.out, S_extract_to, L_S]; rfl)
          cases r with
          | true =>
            have ho : o = some nn := HEND.out nn hns HMR.out i (by omega) HNN.out HNO.out
            subst ho
            clear HEND HNONE
            go_wp2
            refine wp_region_quiet_below (by kernel_rfl) (by kernel_rfl) ?_
            repeat (go_big_quiet_step (with_reducible first | exact CF.out _ _))
            refine wpQuiet_nil ?_
            intro w6 hw'
            have hb6 : Below wr.heap.size wr w6 := by
              obtain ⟨⟨dq, osq⟩, hw''⟩ := hw'
              rw [hw'']; exact below_regrown _ _ _
            have Hw6 := Lib.hid (Hwr.out.trans (hb6.mono Hwr.out.size))
            have hcw6 := (hb6.cell (p := ⟨w.heap.size, 0, none⟩) hzwr).trans hcwr
            have hzw6 : w.heap.size < w6.heap.size := Nat.lt_of_lt_of_le hzwr hb6.size
            clear hw' hb6
            go_wp2
            have hcg : ∀ d os, (Sort.grow (redrawn w6 d) os).cell? ⟨w.heap.size, 0, none⟩ = some (.slice a l.length cap) := fun d os => cell_regrown hcw6 d os
            have CF : Hid (∀ d os, Calls Try.prog 10 #[.agg #[.slice a l.length cap], .string (s.extract 0 nn)] (Sort.grow (redrawn w6 d) os) fun e w'' => e = .returned (.bool true) ∧ ∃ q : Regrown, w'' = Sort.grow (redrawn w6 q.d) q.os) := Lib.hid fun d os =>
              Calls.regrown_of (CM.out _ (Hw6.out.trans ((below_regrown w6 d os).mono Hw6.out.size)) _ _ (by have := extract_len s 0 nn; omega) HPART.out)
            refine wp_region_quiet_below (by kernel_rfl) (by kernel_rfl) ?_
            repeat (go_big_quiet_step (with_reducible first | exact CF.out _ _))
            refine wpQuiet_nil ?_
            intro w7 hw'
            have hb6 : Below w6.heap.size w6 w7 := by
              obtain ⟨⟨dq, osq⟩, hw''⟩ := hw'
              rw [hw'']; exact below_regrown _ _ _
            have Hw7 := Lib.hid (Hw6.out.trans (hb6.mono Hw6.out.size))
            have hcw7 := (hb6.cell (p := ⟨w.heap.size, 0, none⟩) hzw6).trans hcw6
            have hzw7 : w.heap.size < w7.heap.size := Nat.lt_of_lt_of_le hzw6 hb6.size
            clear hw' hb6
            clear hcg hsl
            go_wp2
            go_ret
            exact ⟨rfl, Hw7.out⟩
          | false =>
            go_wp2
            refine wp_region_quiet_below (by kernel_rfl) (by kernel_rfl) ?_
            repeat (go_big_quiet_step (with_reducible first | exact CF.out _ _))
            refine wpQuiet_nil ?_
            intro w6 hw'
            have hb6 : Below wr.heap.size wr w6 := by
              obtain ⟨⟨dq, osq⟩, hw''⟩ := hw'
              rw [hw'']; exact below_regrown _ _ _
            have Hw6 := Lib.hid (Hwr.out.trans (hb6.mono Hwr.out.size))
            have hcw6 := (hb6.cell (p := ⟨w.heap.size, 0, none⟩) hzwr).trans hcwr
            have hzw6 : w.heap.size < w6.heap.size := Nat.lt_of_lt_of_le hzwr hb6.size
            clear hw' hb6
            go_wp2
            have hcg : ∀ d os, (Sort.grow (redrawn w6 d) os).cell? ⟨w.heap.size, 0, none⟩ = some (.slice a l.length cap) := fun d os => cell_regrown hcw6 d os
            have CF : Hid (∀ d os, Calls Try.prog 10 #[.agg #[.slice a l.length cap], .string (s.extract 0 nn)] (Sort.grow (redrawn w6 d) os) fun e w'' => e = .returned (.bool false) ∧ ∃ q : Regrown, w'' = Sort.grow (redrawn w6 q.d) q.os) := Lib.hid fun d os =>
              Calls.regrown_of (CM.out _ (Hw6.out.trans ((below_regrown w6 d os).mono Hw6.out.size)) _ _ (by have := extract_len s 0 nn; omega) HPART.out)
            refine wp_region_quiet_below (by kernel_rfl) (by kernel_rfl) ?_
            repeat (go_big_quiet_step (with_reducible first | exact CF.out _ _))
            refine wpQuiet_nil ?_
            intro w7 hw'
            have hb6 : Below w6.heap.size w6 w7 := by
              obtain ⟨⟨dq, osq⟩, hw''⟩ := hw'
              rw [hw'']; exact below_regrown _ _ _
            have Hw7 := Lib.hid (Hw6.out.trans (hb6.mono Hw6.out.size))
            have hcw7 := (hb6.cell (p := ⟨w.heap.size, 0, none⟩) hzw6).trans hcw6
            have hzw7 : w.heap.size < w7.heap.size := Nat.lt_of_lt_of_le hzw6 hb6.size
            clear hw' hb6
            clear hcg hsl
            go_wp2
            go_roundw
            case rel => exact ⟨i + 1, by omega, by go_num, fun j h => by
              by_cases e : j = i
              · subst e; rw [HNN.out, HMR.out]
              · exact HNO.out j (by omega), hcw7, hzw7, Hw7.out⟩
            case measure => simp [intOf]; omega
        · have hR : o = none := HNONE.out fun j hj => HNO.out j (by omega)
          subst hR
          clear HEND HNONE
          go_wp2
          go_ret
          exact ⟨rfl, Hwr.out⟩
  | true =>
    cases lg with
    | false =>
      go_enter Try.func18, Try.ntmps18
      go_wp2_with fail
      go_loopw [13] (fun i wr => ∃ k : Nat, k ≤ s.size + 1 ∧ i = .int .i64 k ∧ (∀ j, j < k → m (f j) = false) ∧ wr.cell? ⟨w.heap.size, 0, none⟩ = some (.slice a l.length cap) ∧ w.heap.size < wr.heap.size ∧ Below w.heap.size w wr) (fun i _ => s.size + 1 - (intOf i).toNat)
      case atStart => exact ⟨0, Nat.zero_le _, rfl, fun j h => by omega, (Blk.new w 26 #[.slice a l.length cap]).cell 0, by simp, Below.alloc (Below.refl _ _) (Nat.le_refl _) _⟩
      case round =>
        obtain ⟨i, hi, rfl, hno, hcwr, hzwr, hb⟩ := hrel
        have Hwr := Lib.hid hb
        have HNO := Lib.hid hno
        clear hno hb
        by_cases hlt : i < s.size + 1
        · obtain ⟨nn, hnn⟩ : ∃ nn, nn = f i := ⟨_, rfl⟩
          have hns : nn ≤ s.size := by rw [hnn]; exact HFI.out i (by omega)
          obtain ⟨r, hr⟩ : ∃ r, m nn = r := ⟨_, rfl⟩
          have hlt2 : (i : Int) < (s.size : Int) + 1 := by omega
          obtain ⟨mm, hmm⟩ : ∃ mm, mm = s.size - nn := ⟨_, rfl⟩
          have hw : ((s.size : Nat) : Int) - ((nn : Nat) : Int) = ((mm : Nat) : Int) := by omega
          have hms : mm ≤ s.size := by omega
          obtain rfl : nn = i := by rw [hnn, HF.out]; simp
          have HNN := Lib.hid hnn.symm
          have HMR := Lib.hid hr
          have HMM := Lib.hid hmm
          clear hnn hr hmm
          have hwr : IntKind.i64.wrap (((s.size : Nat) : Int) - ((nn : Nat) : Int)) = ((mm : Nat) : Int) := by rw [hw]; exact wrap_in _ (by omega)
          have hsl : ∀ w' : World, (Instr.slice 9 (.string s) (some (.int .i64 ((mm : Nat) : Int))) none none).run Try.prog w' = .ok (.string (s.extract mm s.size)) w' := fun w' => run_sl_from Try.underlying9 s _ mm rfl hms w'
          have HPART : Hid (matchP l (L (s.extract mm s.size)) = r) := Lib.hid (by
            rw [← HMR.out, HM.out, S_extract_from, L_S, HMM.out]; rfl)
          have hcg : ∀ d os, (Sort.grow (redrawn wr d) os).cell? ⟨w.heap.size, 0, none⟩ = some (.slice a l.length cap) := fun d os => cell_regrown hcwr d os
          have CF : Hid (∀ d os, Calls Try.prog 10 #[.agg #[.slice a l.length cap], .string (s.extract mm s.size)] (Sort.grow (redrawn wr d) os) fun e w'' => e = .returned (.bool r) ∧ ∃ q : Regrown, w'' = Sort.grow (redrawn wr q.d) q.os) := Lib.hid fun d os =>
            Calls.regrown_of (CM.out _ (Hwr.out.trans ((below_regrown wr d os).mono Hwr.out.size)) _ _ (by have := extract_len s mm s.size; omega) HPART.out)
          cases r with
          | true =>
            have ho : o = some nn := HEND.out nn hns HMR.out nn (by omega) HNN.out HNO.out
            subst ho
            clear HEND HNONE
            go_wp2
            refine wp_region_quiet_below (by kernel_rfl) (by kernel_rfl) ?_
            repeat (go_big_quiet_step (with_reducible first | exact CF.out _ _))
            refine wpQuiet_nil ?_
            intro w6 hw'
            have hb6 : Below wr.heap.size wr w6 := by
              obtain ⟨⟨dq, osq⟩, hw''⟩ := hw'
              rw [hw'']; exact below_regrown _ _ _
            have Hw6 := Lib.hid (Hwr.out.trans (hb6.mono Hwr.out.size))
            have hcw6 := (hb6.cell (p := ⟨w.heap.size, 0, none⟩) hzwr).trans hcwr
            have hzw6 : w.heap.size < w6.heap.size := Nat.lt_of_lt_of_le hzwr hb6.size
            clear hw' hb6
            clear hcg hwr hsl
            go_wp2
            go_ret
            refine ⟨ret_string ?_, Hw6.out⟩
            rw [HMM.out]; rfl
          | false =>
            go_wp2
            refine wp_region_quiet_below (by kernel_rfl) (by kernel_rfl) ?_
            repeat (go_big_quiet_step (with_reducible first | exact CF.out _ _))
            refine wpQuiet_nil ?_
            intro w6 hw'
            have hb6 : Below wr.heap.size wr w6 := by
              obtain ⟨⟨dq, osq⟩, hw''⟩ := hw'
              rw [hw'']; exact below_regrown _ _ _
            have Hw6 := Lib.hid (Hwr.out.trans (hb6.mono Hwr.out.size))
            have hcw6 := (hb6.cell (p := ⟨w.heap.size, 0, none⟩) hzwr).trans hcwr
            have hzw6 : w.heap.size < w6.heap.size := Nat.lt_of_lt_of_le hzwr hb6.size
            clear hw' hb6
            clear hcg hwr hsl
            go_wp2
            refine wp_region_quiet_below (by kernel_rfl) (by kernel_rfl) ?_
            repeat (go_big_quiet_step (with_reducible first | exact CF.out _ _))
            refine wpQuiet_nil ?_
            intro w7 hw'
            have hb6 : Below w6.heap.size w6 w7 := by
              obtain ⟨⟨dq, osq⟩, hw''⟩ := hw'
              rw [hw'']; exact below_regrown _ _ _
            have Hw7 := Lib.hid (Hw6.out.trans (hb6.mono Hw6.out.size))
            have hcw7 := (hb6.cell (p := ⟨w.heap.size, 0, none⟩) hzw6).trans hcw6
            have hzw7 : w.heap.size < w7.heap.size := Nat.lt_of_lt_of_le hzw6 hb6.size
            clear hw' hb6
            go_wp2
            go_roundw
            case rel => exact ⟨nn + 1, by omega, by go_num, fun j h => by
              by_cases e : j = nn
              · subst e; rw [HNN.out, HMR.out]
              · exact HNO.out j (by omega), hcw7, hzw7, Hw7.out⟩
            case measure => simp [intOf]; omega
        · have hR : o = none := HNONE.out fun j hj => HNO.out j (by omega)
          subst hR
          clear HEND HNONE
          go_wp2
          go_ret
          exact ⟨rfl, Hwr.out⟩
    | true =>
      go_enter Try.func18, Try.ntmps18
      go_wp2_with fail
      go_loopw [13] (fun i wr => ∃ k : Nat, k ≤ s.size + 1 ∧ i = .int .i64 k ∧ (∀ j, j < k → m (f j) = false) ∧ wr.cell? ⟨w.heap.size, 0, none⟩ = some (.slice a l.length cap) ∧ w.heap.size < wr.heap.size ∧ Below w.heap.size w wr) (fun i _ => s.size + 1 - (intOf i).toNat)
      case atStart => exact ⟨0, Nat.zero_le _, rfl, fun j h => by omega, (Blk.new w 26 #[.slice a l.length cap]).cell 0, by simp, Below.alloc (Below.refl _ _) (Nat.le_refl _) _⟩
      case round =>
        obtain ⟨i, hi, rfl, hno, hcwr, hzwr, hb⟩ := hrel
        have Hwr := Lib.hid hb
        have HNO := Lib.hid hno
        clear hno hb
        by_cases hlt : i < s.size + 1
        · obtain ⟨nn, hnn⟩ : ∃ nn, nn = f i := ⟨_, rfl⟩
          have hns : nn ≤ s.size := by rw [hnn]; exact HFI.out i (by omega)
          obtain ⟨r, hr⟩ : ∃ r, m nn = r := ⟨_, rfl⟩
          have hlt2 : (i : Int) < (s.size : Int) + 1 := by omega
          obtain ⟨mm, hmm⟩ : ∃ mm, mm = s.size - nn := ⟨_, rfl⟩
          have hw : ((s.size : Nat) : Int) - ((nn : Nat) : Int) = ((mm : Nat) : Int) := by omega
          have hms : mm ≤ s.size := by omega
          have hv : ((s.size : Nat) : Int) - ((i : Nat) : Int) = ((nn : Nat) : Int) := by rw [hnn, HF.out]; simp; omega
          have HNN := Lib.hid hnn.symm
          have HMR := Lib.hid hr
          have HMM := Lib.hid hmm
          clear hnn hr hmm
          have hwr : IntKind.i64.wrap (((s.size : Nat) : Int) - ((nn : Nat) : Int)) = ((mm : Nat) : Int) := by rw [hw]; exact wrap_in _ (by omega)
          have hsl : ∀ w' : World, (Instr.slice 9 (.string s) (some (.int .i64 ((mm : Nat) : Int))) none none).run Try.prog w' = .ok (.string (s.extract mm s.size)) w' := fun w' => run_sl_from Try.underlying9 s _ mm rfl hms w'
          have HPART : Hid (matchP l (L (s.extract mm s.size)) = r) := Lib.hid (by
            rw [← HMR.out, HM.out, S_extract_from, L_S, HMM.out]; rfl)
          have hcg : ∀ d os, (Sort.grow (redrawn wr d) os).cell? ⟨w.heap.size, 0, none⟩ = some (.slice a l.length cap) := fun d os => cell_regrown hcwr d os
          have CF : Hid (∀ d os, Calls Try.prog 10 #[.agg #[.slice a l.length cap], .string (s.extract mm s.size)] (Sort.grow (redrawn wr d) os) fun e w'' => e = .returned (.bool r) ∧ ∃ q : Regrown, w'' = Sort.grow (redrawn wr q.d) q.os) := Lib.hid fun d os =>
            Calls.regrown_of (CM.out _ (Hwr.out.trans ((below_regrown wr d os).mono Hwr.out.size)) _ _ (by have := extract_len s mm s.size; omega) HPART.out)
          cases r with
          | true =>
            have ho : o = some nn := HEND.out nn hns HMR.out i (by omega) HNN.out HNO.out
            subst ho
            clear HEND HNONE
            go_wp2
            refine wp_region_quiet_below (by kernel_rfl) (by kernel_rfl) ?_
            repeat (go_big_quiet_step (with_reducible first | exact CF.out _ _))
            refine wpQuiet_nil ?_
            intro w6 hw'
            have hb6 : Below wr.heap.size wr w6 := by
              obtain ⟨⟨dq, osq⟩, hw''⟩ := hw'
              rw [hw'']; exact below_regrown _ _ _
            have Hw6 := Lib.hid (Hwr.out.trans (hb6.mono Hwr.out.size))
            have hcw6 := (hb6.cell (p := ⟨w.heap.size, 0, none⟩) hzwr).trans hcwr
            have hzw6 : w.heap.size < w6.heap.size := Nat.lt_of_lt_of_le hzwr hb6.size
            clear hw' hb6
            clear hcg hwr hsl
            go_wp2
            go_ret
            refine ⟨ret_string ?_, Hw6.out⟩
            rw [HMM.out]; rfl
          | false =>
            go_wp2
            refine wp_region_quiet_below (by kernel_rfl) (by kernel_rfl) ?_
            repeat (go_big_quiet_step (with_reducible first | exact CF.out _ _))
            refine wpQuiet_nil ?_
            intro w6 hw'
            have hb6 : Below wr.heap.size wr w6 := by
              obtain ⟨⟨dq, osq⟩, hw''⟩ := hw'
              rw [hw'']; exact below_regrown _ _ _
            have Hw6 := Lib.hid (Hwr.out.trans (hb6.mono Hwr.out.size))
            have hcw6 := (hb6.cell (p := ⟨w.heap.size, 0, none⟩) hzwr).trans hcwr
            have hzw6 : w.heap.size < w6.heap.size := Nat.lt_of_lt_of_le hzwr hb6.size
            clear hw' hb6
            clear hcg hwr hsl
            go_wp2
            refine wp_region_quiet_below (by kernel_rfl) (by kernel_rfl) ?_
            repeat (go_big_quiet_step (with_reducible first | exact CF.out _ _))
            refine wpQuiet_nil ?_
            intro w7 hw'
            have hb6 : Below w6.heap.size w6 w7 := by
              obtain ⟨⟨dq, osq⟩, hw''⟩ := hw'
              rw [hw'']; exact below_regrown _ _ _
            have Hw7 := Lib.hid (Hw6.out.trans (hb6.mono Hw6.out.size))
            have hcw7 := (hb6.cell (p := ⟨w.heap.size, 0, none⟩) hzw6).trans hcw6
            have hzw7 : w.heap.size < w7.heap.size := Nat.lt_of_lt_of_le hzw6 hb6.size
            clear hw' hb6
            go_wp2
            go_roundw
            case rel => exact ⟨i + 1, by omega, by go_num, fun j h => by
              by_cases e : j = i
              · subst e; rw [HNN.out, HMR.out]
              · exact HNO.out j (by omega), hcw7, hzw7, Hw7.out⟩
            case measure => simp [intOf]; omega
        · have hR : o = none := HNONE.out fun j hj => HNO.out j (by omega)
          subst hR
          clear HEND HNONE
          go_wp2
          go_ret
          exact ⟨rfl, Hwr.out⟩
end Go.Proofs.Ytiacoomeakodnaa
