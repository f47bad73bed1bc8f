/-
  Walks for TagFinds, TagRises, TagBursts: the two First.
-/
import Derived.Test.YtkeinpifbiiodaaW4
import Derived.BigQuiet
namespace Go.Proofs.Ytkeinpifbiiodaa
open Go.RowKit

/-- m is the first number from n0 on that is free; none: there is none. -/
def IsFirst (ss : List ByteArray) (n0 : Nat) : Option Nat → Prop
  | some k => n0 ≤ k ∧ k < 11881376 ∧ freeB k ss = true ∧ ∀ j, n0 ≤ j → j < k → freeB j ss = false
  | none => ∀ j, n0 ≤ j → j < 11881376 → freeB j ss = false

theorem first_exists (ss : List ByteArray) (n0 : Nat) : ∃ m, IsFirst ss n0 m := by
  have : ∀ d, (∃ k, n0 ≤ k ∧ k < n0 + d ∧ freeB k ss = true ∧ ∀ j, n0 ≤ j → j < k → freeB j ss = false) ∨ ∀ j, n0 ≤ j → j < n0 + d → freeB j ss = false := by
    intro d
    induction d with
    | zero => exact .inr fun j h1 h2 => by omega
    | succ d ih =>
      rcases ih with ⟨k, h1, h2, h3⟩ | ih
      · exact .inl ⟨k, h1, by omega, h3⟩
      · cases h : freeB (n0 + d) ss
        · exact .inr fun j h1 h2 => by
            by_cases e : j = n0 + d
            · rw [e]; exact h
            · exact ih j h1 (by omega)
        · exact .inl ⟨n0 + d, by omega, by omega, h, ih⟩
  rcases this (11881376 - n0) with ⟨k, h1, h2, h3⟩ | h
  · by_cases h4 : n0 < 11881376
    · exact ⟨some k, h1, by omega, h3⟩
    · omega
  · exact ⟨none, fun j h1 h2 => h j h1 (by omega)⟩

theorem IsFirst.step {ss : List ByteArray} {n0 : Nat} {m : Option Nat} (h : IsFirst ss n0 m) {k : Nat} (h1 : n0 ≤ k) (h2 : ∀ j, n0 ≤ j → j < k → freeB j ss = false) (h3 : k < 11881376) :
    (freeB k ss = true ∧ m = some k) ∨ (freeB k ss = false ∧ ∀ j, n0 ≤ j → j < k + 1 → freeB j ss = false) := by
  cases hf : freeB k ss
  · exact .inr ⟨rfl, fun j a b => by
      by_cases e : j = k
      · rw [e]; exact hf
      · exact h2 j a (by omega)⟩
  · refine .inl ⟨rfl, ?_⟩
    cases m with
    | none => have := h k h1 h3; rw [hf] at this; cases this
    | some k' =>
      obtain ⟨a, b, c, d⟩ := h
      have : ¬ k < k' := fun hk => by have := d k h1 hk; rw [hf] at this; cases this
      have : ¬ k' < k := fun hk => by have := h2 k' a hk; rw [c] at this; cases this
      congr 1; omega

theorem IsFirst.over {ss : List ByteArray} {n0 : Nat} {m : Option Nat} (h : IsFirst ss n0 m) {k : Nat} (h2 : ∀ j, n0 ≤ j → j < k → freeB j ss = false) (h3 : 11881376 ≤ k) : m = none := by
  cases m with
  | none => rfl
  | some k' =>
    obtain ⟨a, b, c, d⟩ := h
    have := h2 k' a (by omega); rw [c] at this; cases this

/-- How many numbers there are (behind a name: the walk would count it up). -/
def topN : Nat := 11881376

/-- What First answers: a number, an error. -/
def resN : Option Nat → Nat := fun m => m.getD 0
def resE : Option Nat → Nat | some _ => 0 | none => 42

set_option maxRecDepth 100000 in
set_option maxHeartbeats 800000 in
theorem first_any (fr : Int) (a : Option Addr) (n cap : Nat) (ss : List ByteArray) (w : World) (h : Elems w w.heap.size a n (ss.map .string)) (hf1 : fr ≤ 9223372036854775807)
    (hsz : ∀ s ∈ ss, s.size ≤ 100000) (hv : ∃ c, w.cell? ⟨0, 0, none⟩ = some (.int .i64 c)) (hv0 : 0 < w.heap.size) (m : Option Nat) (hm : IsFirst ss fr.toNat m) :
    Calls Try.prog 11 #[.int .i64 fr, .slice a n cap] w fun e w' => e = .returned (.tuple #[.int .i64 (resN m), .int .i64 (resE m)]) ∧ Below w.heap.size w w' := by
  have HE := Lib.hid h
  have HS := Lib.hid hsz
  have HV := Lib.hid hv
  have HM := Lib.hid hm
  clear h hsz hv hm
  go_enter Try.func11, Try.ntmps11
  go_wp2
  refine wp_scope_again 0 (fun a' w' => ∃ k : Nat, fr.toNat ≤ k ∧ (k : Int) ≤ 9223372036854775807 ∧ (∀ j, fr.toNat ≤ j → j < k → freeB j ss = false) ∧ Below w.heap.size w w' ∧ ∃ (u2 u3 u7 u8 u9 u10 u11 u12 u13 u14 u15 u16 : Value), a' = { tmps := #[.int .i64 fr, .slice a n cap, u2, u3, .int .i64 0, .int .i64 0, .int .i64 k, u7, u8, u9, u10, u11, u12, u13, u14, u15, u16], defers := [] })
    (fun a' _ => topN - (intOf (a'.tmps.getD 6 undef)).toNat) rfl ?_ ?_
  · rintro a' wr ⟨k, hk, hk2, hfr, hb, u2, u3, u7, u8, u9, u10, u11, u12, u13, u14, u15, u16, rfl⟩
    have HF := Lib.hid hfr
    clear hfr
    by_cases hkN : k < 11881376
    · have hcon := free_any k a n cap ss wr ((HE.out.below hb).mono hb.size) hkN HS.out (by obtain ⟨c, hc⟩ := HV.out; exact ⟨c, by rw [hb.cell (p := ⟨0, 0, none⟩) hv0]; exact hc⟩) (by have := hb.size; omega)
      have HCon := Lib.hid hcon
      have hge : decide ((k : Int) ≥ 11881376) = false := by simp; omega
      have HK := Lib.hid hkN
      have hk3 : (k : Int) < 100000000 := by omega
      clear hcon hkN
      rcases HM.out.step hk HF.out HK.out with ⟨h1, h2⟩ | ⟨h1, h2⟩
      · have H1 := Lib.hid h1
        subst h2
        clear h1
        go_wp2_with fail
        refine HCon.out.mono ?_
        rw [H1.out]
        rintro e w1 ⟨rfl, hb1⟩
        go_wp2_with fail
        simp only [Exit.jump]
        go_ret2
        exact ⟨rfl, hb.trans (hb1.mono hb.size)⟩
      · have H1 := Lib.hid h1
        have H2 := Lib.hid h2
        clear h1 h2
        go_wp2_with fail
        refine HCon.out.mono ?_
        rw [H1.out]
        rintro e w1 ⟨rfl, hb1⟩
        go_wp2_with fail
        go_step3
        refine ⟨rfl, ⟨k + 1, by omega, by omega, H2.out, hb.trans (hb1.mono hb.size), _, _, _, _, _, _, _, _, _, _, _, _, rfl⟩, ?_⟩
        have := HK.out; simp [intOf, topN]; omega
    · have hmn := HM.out.over HF.out (by omega)
      subst hmn
      have hge : decide ((k : Int) ≥ 11881376) = true := by simp; omega
      clear hkN
      go_wp2_with fail
      simp only [Exit.jump]
      go_ret2
      exact ⟨rfl, hb⟩
  · intro hR
    have hx : max fr 0 = ((fr.toNat : Nat) : Int) := by omega
    have HX := Lib.hid hx
    clear hx
    go_wp2
    rw [HX.out]
    go_step3
    go_step
    go_step
    exact hR.out _ _ ⟨fr.toNat, by omega, by omega, fun j h1 h2 => by omega, Below.refl _ _, _, _, _, _, _, _, _, _, _, _, _, _, rfl⟩

/-- What the reference's First answers. -/
def resR : Option Nat → Int | some k => k | none => -1

theorem refHalf_head (head : ByteArray) (x : List UInt8) (k : Nat) (w : World) (d : Nat) (os : Array Obj) (hk : k < 11881376) (hs : head.size ≤ 1000) (hx : head ++ S (lets 5 k) = S x) :
    Calls Try.prog 14 #[.string head, .int .i64 k] (Sort.grow (redrawn w d) os) fun e w'' => e = .returned (.string (S x)) ∧ ∃ p : Regrown, w'' = Sort.grow (redrawn w p.d) p.os :=
  Calls.regrown_of ((refHalf_any head k _ hk hs).mono fun e w' h => by rw [← hx]; exact h)

theorem in_grow (s t : ByteArray) (b : Bool) (w : World) (d : Nat) (os : Array Obj) (hs : s.size ≤ 100000) (ht : t.size ≤ 100000) (hb : occ (L s) (L t) = b) :
    Calls Try.prog 17 #[.string s, .string t] (Sort.grow (redrawn w d) os) fun e w'' => e = .returned (.bool b) ∧ ∃ p : Regrown, w'' = Sort.grow (redrawn w p.d) p.os :=
  Calls.regrown_of ((in_any s t _ hs ht).mono fun e w' ⟨h, h2⟩ => ⟨by rw [← hb]; exact h, h2 ▸ Below.refl _ _⟩)

set_option maxRecDepth 100000 in
set_option maxHeartbeats 800000 in
theorem refFirst_any (fr : Int) (a : Option Addr) (n cap : Nat) (ss : List ByteArray) (w : World) (h : Elems w w.heap.size a n (ss.map .string)) (hf1 : fr ≤ 9223372036854775807)
    (hsz : ∀ s ∈ ss, s.size ≤ 100000) (m : Option Nat) (hm : IsFirst ss fr.toNat m) :
    Calls Try.prog 12 #[.int .i64 fr, .slice a n cap] w fun e w' => e = .returned (.int .i64 (resR m)) ∧ Below w.heap.size w w' := by
  obtain ⟨b, off, hix, hB, hc⟩ := h.open (P := Try.prog) 22 9 Try.underlying22 (by kernel_rfl)
  have hl : ss.length = n := by simpa using h.1
  have hmx := h.2.1
  unfold maxLen at hmx
  have HL := Lib.hid hl
  have HC := Lib.hid hc
  have HB := Lib.hid hB
  have HS := Lib.hid hsz
  have HM := Lib.hid hm
  clear h hsz hm hl hc hB
  by_cases h0 : fr < 0
  · go_enter Try.func12, Try.ntmps12
    go_wp2
    go_loopw [5] (fun i wr => ∃ k : Nat, fr.toNat ≤ k ∧ i = .int .i64 k ∧ (k : Int) ≤ 9223372036854775807 ∧ (∀ j, fr.toNat ≤ j → j < k → freeB j ss = false) ∧ Below w.heap.size w wr) (fun i _ => topN - (intOf i).toNat)
    case atStart => exact ⟨fr.toNat, by omega, congrArg (Value.int .i64) (by omega), by omega, fun j h1 h2 => by omega, Below.refl _ _⟩
    case round =>
      obtain ⟨k, hk, rfl, hk2, hfr, hb⟩ := hrel
      have HF := Lib.hid hfr
      clear hfr
      have hbs := hb.size
      by_cases hkN : k < 11881376
      · have hge : decide ((k : Int) < 11881376) = true := by simp; omega
        have HK := Lib.hid hkN
        have hk3 : (k : Int) < 100000000 := by omega
        clear hkN
        go_wp2
        obtain ⟨wo, rfl⟩ : ∃ wo : World, wo = wr := ⟨_, rfl⟩
        go_loopw [6, 7] (fun f i wr => ∃ (j : Nat) (fd : Bool), j ≤ n ∧ i = .int .i64 j ∧ f = .bool fd ∧ freeB k (ss.take j) = (!fd) ∧ Below w.heap.size w wr) (fun _ i _ => n - (intOf i).toNat)
        case atStart => exact ⟨0, false, by omega, rfl, rfl, rfl, hb⟩
        case round =>
          obtain ⟨j, fd, hj, rfl, rfl, hfd, hb2⟩ := hrel
          have HFD := Lib.hid hfd
          clear hfd
          by_cases hlt : j < n
          · have hk' : j < ss.length := by rw [HL.out]; exact hlt
            obtain ⟨s, hs⟩ : ∃ s, s = ss[j] := ⟨_, rfl⟩
            have hsm : s.size ≤ 100000 := HS.out s (by rw [hs]; exact List.getElem_mem _)
            have hcell : wr.cell? ⟨b, off + j, none⟩ = some (.string s) := by
              rw [hb2.cell (p := ⟨b, off + j, none⟩) (by have := HB.out; show b < _; omega), HC.out j hlt, hs]; simp [hk']
            have hcg : ∀ d os, (Sort.grow (redrawn wr d) os).cell? ⟨b, off + j, none⟩ = some (.string s) := fun d os => cell_regrown hcell d os
            have htk : freeB k (ss.take (j + 1)) = (freeB k (ss.take j) && !(occ (L s) (halfB k) || occ (L s) (halfE k))) := by
              rw [List.take_succ_eq_append_getElem hk', ← hs]; simp [freeB]
            have HT := Lib.hid htk
            clear htk hs hk'
            have cB := fun d os => refHalf_head ⟨#[66, 81]⟩ (halfB k) k wr d os HK.out (by decide) (L_inj (by rw [L_append, L_S, L_S]; rfl))
            have cE := fun d os => refHalf_head ⟨#[69, 81]⟩ (halfE k) k wr d os HK.out (by decide) (L_inj (by rw [L_append, L_S, L_S]; rfl))
            have CB := Lib.hid cB
            have CE := Lib.hid cE
            clear cB cE
            cases fd
            · cases h1 : occ (L s) (halfB k)
              · cases h2 : occ (L s) (halfE k)
                all_goals
                  have c1 := fun d os => in_grow s (S (halfB k)) _ wr d os hsm (by rw [S_size]; simp [halfB, lets]) h1
                  have c2 := fun d os => in_grow s (S (halfE k)) _ wr d os hsm (by rw [S_size]; simp [halfE, lets]) h2
                  have C1 := Lib.hid c1
                  have C2 := Lib.hid c2
                  have H1 := Lib.hid h1
                  have H2 := Lib.hid h2
                  clear c1 c2 h1 h2
                  go_wp2
                  refine wp_region_quiet_below (by kernel_rfl) (by kernel_rfl) ?_
                  repeat (go_big_quiet_step (with_reducible first | exact CB.out _ _ | exact CE.out _ _ | exact C1.out _ _ | exact C2.out _ _))
                  refine wpQuiet_nil ?_
                  intro _ hw'
                  obtain ⟨⟨dq, osq⟩, hw''⟩ := hw'
                  subst hw''
                  have hbq := hb2.trans ((below_regrown wr dq osq).mono hb2.size)
                  clear hcg
                  go_wp2
                  go_roundw
                  case rel => exact ⟨j + 1, _, by omega, by go_num, rfl, by simp [HT.out, HFD.out, H1.out, H2.out], hbq⟩
                  case measure => simp [intOf]; omega
              · have c1 := fun d os => in_grow s (S (halfB k)) _ wr d os hsm (by rw [S_size]; simp [halfB, lets]) h1
                have C1 := Lib.hid c1
                have C2 := C1
                have H1 := Lib.hid h1
                clear c1 h1
                go_wp2
                refine wp_region_quiet_below (by kernel_rfl) (by kernel_rfl) ?_
                repeat (go_big_quiet_step (with_reducible first | exact CB.out _ _ | exact CE.out _ _ | exact C1.out _ _ | exact C2.out _ _))
                refine wpQuiet_nil ?_
                intro _ hw'
                obtain ⟨⟨dq, osq⟩, hw''⟩ := hw'
                subst hw''
                have hbq := hb2.trans ((below_regrown wr dq osq).mono hb2.size)
                clear hcg
                go_wp2
                go_roundw
                case rel => exact ⟨j + 1, _, by omega, by go_num, rfl, by simp [HT.out, HFD.out, H1.out], hbq⟩
                case measure => simp [intOf]; omega
            · have C1 := CB
              have C2 := CB
              go_wp2
              refine wp_region_quiet_below (by kernel_rfl) (by kernel_rfl) ?_
              repeat (go_big_quiet_step (with_reducible first | exact CB.out _ _ | exact CE.out _ _ | exact C1.out _ _ | exact C2.out _ _))
              refine wpQuiet_nil ?_
              intro _ hw'
              obtain ⟨⟨dq, osq⟩, hw''⟩ := hw'
              subst hw''
              have hbq := hb2.trans ((below_regrown wr dq osq).mono hb2.size)
              clear hcg
              go_wp2
              go_roundw
              case rel => exact ⟨j + 1, _, by omega, by go_num, rfl, by simp [HT.out, HFD.out], hbq⟩
              case measure => simp [intOf]; omega
          · obtain rfl : j = n := by omega
            rw [List.take_of_length_le (by rw [HL.out]; exact Nat.le_refl _)] at HFD
            have hst := HM.out.step hk HF.out HK.out
            rw [HFD.out] at hst
            have HST := Lib.hid hst
            clear hst
            cases fd
            · have hmk : m = some k := by
                rcases HST.out with ⟨_, h2⟩ | ⟨h1, _⟩
                · exact h2
                · cases h1
              subst hmk
              go_wp2
              go_ret
              exact ⟨rfl, hb2⟩
            · have hnx : ∀ i, fr.toNat ≤ i → i < k + 1 → freeB i ss = false := by
                rcases HST.out with ⟨h1, _⟩ | ⟨_, h2⟩
                · cases h1
                · exact h2
              have HN := Lib.hid hnx
              clear hnx
              go_wp2
              go_roundw
              case rel => exact ⟨k + 1, by omega, by go_num, by omega, HN.out, hb2⟩
              case measure => have := HK.out; simp [intOf, topN]; omega
      · have hge : decide ((k : Int) < 11881376) = false := by simp; omega
        have hmn := HM.out.over HF.out (by omega)
        subst hmn
        clear hkN
        go_wp2
        go_ret
        exact ⟨rfl, hb⟩
  · go_enter Try.func12, Try.ntmps12
    go_wp2
    go_loopw [5] (fun i wr => ∃ k : Nat, fr.toNat ≤ k ∧ i = .int .i64 k ∧ (k : Int) ≤ 9223372036854775807 ∧ (∀ j, fr.toNat ≤ j → j < k → freeB j ss = false) ∧ Below w.heap.size w wr) (fun i _ => topN - (intOf i).toNat)
    case atStart => exact ⟨fr.toNat, by omega, congrArg (Value.int .i64) (by omega), by omega, fun j h1 h2 => by omega, Below.refl _ _⟩
    case round =>
      obtain ⟨k, hk, rfl, hk2, hfr, hb⟩ := hrel
      have HF := Lib.hid hfr
      clear hfr
      have hbs := hb.size
      by_cases hkN : k < 11881376
      · have hge : decide ((k : Int) < 11881376) = true := by simp; omega
        have HK := Lib.hid hkN
        have hk3 : (k : Int) < 100000000 := by omega
        clear hkN
        go_wp2
        obtain ⟨wo, rfl⟩ : ∃ wo : World, wo = wr := ⟨_, rfl⟩
        go_loopw [6, 7] (fun f i wr => ∃ (j : Nat) (fd : Bool), j ≤ n ∧ i = .int .i64 j ∧ f = .bool fd ∧ freeB k (ss.take j) = (!fd) ∧ Below w.heap.size w wr) (fun _ i _ => n - (intOf i).toNat)
        case atStart => exact ⟨0, false, by omega, rfl, rfl, rfl, hb⟩
        case round =>
          obtain ⟨j, fd, hj, rfl, rfl, hfd, hb2⟩ := hrel
          have HFD := Lib.hid hfd
          clear hfd
          by_cases hlt : j < n
          · have hk' : j < ss.length := by rw [HL.out]; exact hlt
            obtain ⟨s, hs⟩ : ∃ s, s = ss[j] := ⟨_, rfl⟩
            have hsm : s.size ≤ 100000 := HS.out s (by rw [hs]; exact List.getElem_mem _)
            have hcell : wr.cell? ⟨b, off + j, none⟩ = some (.string s) := by
              rw [hb2.cell (p := ⟨b, off + j, none⟩) (by have := HB.out; show b < _; omega), HC.out j hlt, hs]; simp [hk']
            have hcg : ∀ d os, (Sort.grow (redrawn wr d) os).cell? ⟨b, off + j, none⟩ = some (.string s) := fun d os => cell_regrown hcell d os
            have htk : freeB k (ss.take (j + 1)) = (freeB k (ss.take j) && !(occ (L s) (halfB k) || occ (L s) (halfE k))) := by
              rw [List.take_succ_eq_append_getElem hk', ← hs]; simp [freeB]
            have HT := Lib.hid htk
            clear htk hs hk'
            have cB := fun d os => refHalf_head ⟨#[66, 81]⟩ (halfB k) k wr d os HK.out (by decide) (L_inj (by rw [L_append, L_S, L_S]; rfl))
            have cE := fun d os => refHalf_head ⟨#[69, 81]⟩ (halfE k) k wr d os HK.out (by decide) (L_inj (by rw [L_append, L_S, L_S]; rfl))
            have CB := Lib.hid cB
            have CE := Lib.hid cE
            clear cB cE
            cases fd
            · cases h1 : occ (L s) (halfB k)
              · cases h2 : occ (L s) (halfE k)
                all_goals
                  have c1 := fun d os => in_grow s (S (halfB k)) _ wr d os hsm (by rw [S_size]; simp [halfB, lets]) h1
                  have c2 := fun d os => in_grow s (S (halfE k)) _ wr d os hsm (by rw [S_size]; simp [halfE, lets]) h2
                  have C1 := Lib.hid c1
                  have C2 := Lib.hid c2
                  have H1 := Lib.hid h1
                  have H2 := Lib.hid h2
                  clear c1 c2 h1 h2
                  go_wp2
                  refine wp_region_quiet_below (by kernel_rfl) (by kernel_rfl) ?_
                  repeat (go_big_quiet_step (with_reducible first | exact CB.out _ _ | exact CE.out _ _ | exact C1.out _ _ | exact C2.out _ _))
                  refine wpQuiet_nil ?_
                  intro _ hw'
                  obtain ⟨⟨dq, osq⟩, hw''⟩ := hw'
                  subst hw''
                  have hbq := hb2.trans ((below_regrown wr dq osq).mono hb2.size)
                  clear hcg
                  go_wp2
                  go_roundw
                  case rel => exact ⟨j + 1, _, by omega, by go_num, rfl, by simp [HT.out, HFD.out, H1.out, H2.out], hbq⟩
                  case measure => simp [intOf]; omega
              · have c1 := fun d os => in_grow s (S (halfB k)) _ wr d os hsm (by rw [S_size]; simp [halfB, lets]) h1
                have C1 := Lib.hid c1
                have C2 := C1
                have H1 := Lib.hid h1
                clear c1 h1
                go_wp2
                refine wp_region_quiet_below (by kernel_rfl) (by kernel_rfl) ?_
                repeat (go_big_quiet_step (with_reducible first | exact CB.out _ _ | exact CE.out _ _ | exact C1.out _ _ | exact C2.out _ _))
                refine wpQuiet_nil ?_
                intro _ hw'
                obtain ⟨⟨dq, osq⟩, hw''⟩ := hw'
                subst hw''
                have hbq := hb2.trans ((below_regrown wr dq osq).mono hb2.size)
                clear hcg
                go_wp2
                go_roundw
                case rel => exact ⟨j + 1, _, by omega, by go_num, rfl, by simp [HT.out, HFD.out, H1.out], hbq⟩
                case measure => simp [intOf]; omega
            · have C1 := CB
              have C2 := CB
              go_wp2
              refine wp_region_quiet_below (by kernel_rfl) (by kernel_rfl) ?_
              repeat (go_big_quiet_step (with_reducible first | exact CB.out _ _ | exact CE.out _ _ | exact C1.out _ _ | exact C2.out _ _))
              refine wpQuiet_nil ?_
              intro _ hw'
              obtain ⟨⟨dq, osq⟩, hw''⟩ := hw'
              subst hw''
              have hbq := hb2.trans ((below_regrown wr dq osq).mono hb2.size)
              clear hcg
              go_wp2
              go_roundw
              case rel => exact ⟨j + 1, _, by omega, by go_num, rfl, by simp [HT.out, HFD.out], hbq⟩
              case measure => simp [intOf]; omega
          · obtain rfl : j = n := by omega
            rw [List.take_of_length_le (by rw [HL.out]; exact Nat.le_refl _)] at HFD
            have hst := HM.out.step hk HF.out HK.out
            rw [HFD.out] at hst
            have HST := Lib.hid hst
            clear hst
            cases fd
            · have hmk : m = some k := by
                rcases HST.out with ⟨_, h2⟩ | ⟨h1, _⟩
                · exact h2
                · cases h1
              subst hmk
              go_wp2
              go_ret
              exact ⟨rfl, hb2⟩
            · have hnx : ∀ i, fr.toNat ≤ i → i < k + 1 → freeB i ss = false := by
                rcases HST.out with ⟨h1, _⟩ | ⟨_, h2⟩
                · cases h1
                · exact h2
              have HN := Lib.hid hnx
              clear hnx
              go_wp2
              go_roundw
              case rel => exact ⟨k + 1, by omega, by go_num, by omega, HN.out, hb2⟩
              case measure => have := HK.out; simp [intOf, topN]; omega
      · have hge : decide ((k : Int) < 11881376) = false := by simp; omega
        have hmn := HM.out.over HF.out (by omega)
        subst hmn
        clear hkN
        go_wp2
        go_ret
        exact ⟨rfl, hb⟩

end Go.Proofs.Ytkeinpifbiiodaa
