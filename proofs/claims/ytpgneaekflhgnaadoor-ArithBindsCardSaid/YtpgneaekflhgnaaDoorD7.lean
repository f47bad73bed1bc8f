/-
  The walk of the document's Row.
-/
import Derived.Test.YtpgneaekflhgnaaDoorD3
import Derived.Test.YtpgneaekflhgnaaDoorD5
import Derived.Test.YtpgneaekflhgnaaDoorSlTo
import Derived.Deep.RegionWith
namespace Go.Proofs.YtpgneaekflhgnaaDoor
open Go.RowKit

theorem opB_inj : ∀ o, o < 18 → ∀ p, p < 18 → opB o = opB p → o = p := by decide
theorem rlevel_op {o : Nat} (ho : o < 18) (W : World) : Calls Tryd.prog 6 #[.string (S (opB o))] W fun e w' => e = .returned (.int .i64 (opLev o : Int)) ∧ Below W.heap.size W w' :=
  (rlevel_any (S (opB o)) W).mono fun e w' ⟨⟨r, h1, h2⟩, hb⟩ => by
    rcases h2 with ⟨p, hp, h3, h4⟩ | ⟨_, h3⟩
    · have : o = p := opB_inj o ho p hp h3
      subst this
      exact ⟨by rw [h1, h4], hb⟩
    · exact absurd rfl (h3 o ho)
def numsV (n : Int) (l : List Tok) : List Value := .int .i64 n :: l.map fun t => .int .i64 t.2
def opsV (l : List Tok) : List Value := l.map fun t => .string (S (opB t.1))
/-- What Row gives: a tree. -/
def RowP (t : ET) (w : World) : Ending → World → Prop := fun e w' => ∃ (k n : Int) (s : ByteArray) (p : Option Addr) (m c : Nat), e = .returned (.agg #[.int .i64 k, .int .i64 n, .string ⟨#[]⟩, .string s, .slice p m c]) ∧ EC w' w.heap.size t [.int .i64 k, .int .i64 n, .string ⟨#[]⟩, .string s, .slice p m c] ∧ Below w.heap.size w w'
def RowOK (f : Nat) : Prop := ∀ (n : Int) (l : List Tok) (vn vo : Value) (w : World) (B : Nat), l.length < f → l.length ≤ 12 → (∀ t ∈ l, t.1 < 18) → Sl w B 1 vn (l.length + 1) (numsV n l) → Sl w B 1 vo l.length (opsV l) → B ≤ w.heap.size →
  Calls Tryd.prog 10 #[vn, vo] w (RowP (rowT f n l) w)
set_option maxHeartbeats 1000000 in
set_option maxRecDepth 100000 in
theorem row_nil (f : Nat) (n : Int) (vn vo : Value) (w : World) (B : Nat) (hn : Sl w B 1 vn 1 (numsV n [])) (ho : Sl w B 1 vo 0 (opsV [])) (hB : B ≤ w.heap.size) :
    Calls Tryd.prog 10 #[vn, vo] w (RowP (rowT (f + 1) n []) w) := by
  obtain ⟨a, c, bn, on, rfl, _, _, hi, _, hc⟩ := hn.open (P := Tryd.prog) 22 2 Tryd.underlying22 (by kernel_rfl)
  obtain ⟨a2, c2, bo, oo, rfl, _⟩ := ho.open (P := Tryd.prog) 23 9 Tryd.underlying23 (by kernel_rfl)
  have h0 := hc 0 (by omega)
  have j0 : ∀ W, (Instr.indexAt 22 (.slice a 1 c) (.int .i64 0)).run Tryd.prog W = .ok (.pointer (some ⟨bn, on + 0 * 1, none⟩)) W := fun W => hi 0 W (by omega)
  rw [show (numsV n [])[0]? = some (.int .i64 n) from rfl] at h0
  rw [Nat.zero_mul, Nat.add_zero] at j0
  rw [Nat.add_zero] at h0
  have hlt := World.block_lt_of_cell? w _ h0
  clear hc hi hn ho
  go_enter Tryd.func10, Tryd.ntmps10
  go_wp2_with fail
  refine bodyPost_ret (v := .agg #[.int .i64 0, .int .i64 n, .string ⟨#[]⟩, .string ⟨#[]⟩, .slice none 0 0]) (by simp [results, Tryd.results10, go_sem]) rfl ?_
  exact ⟨0, n, ⟨#[]⟩, none, 0, 0, rfl, rfl, (Below.refl _ _).alloc (Nat.le_refl _) _⟩
theorem numsV_take (n : Int) (l : List Tok) (k : Nat) : (numsV n l).take (k + 1) = numsV n (l.take k) := by simp [numsV, List.map_take]
theorem numsV_drop (n : Int) (l : List Tok) {k : Nat} (hk : k < l.length) : (numsV n l).drop (k + 1) = numsV (l.getD k (0, 0)).2 (l.drop (k + 1)) := by
  have h : l.drop k = l.getD k (0, 0) :: l.drop (k + 1) := by
    rw [List.drop_eq_getElem_cons hk]; simp [List.getD, List.getElem?_eq_getElem hk]
  show (l.map fun t => Value.int .i64 t.2).drop k = _
  rw [← List.map_drop, h]
  rfl
set_option maxHeartbeats 2000000 in
set_option maxRecDepth 100000 in
theorem row_join (f : Nat) (ih : RowOK f) (n : Int) (l : List Tok) (hne : l ≠ []) (vn vo : Value) (w : World) (B : Nat) (hlf : l.length < f + 1) (hl12 : l.length ≤ 12) (hl : ∀ t ∈ l, t.1 < 18) (hn : Sl w B 1 vn (l.length + 1) (numsV n l)) (ho : Sl w B 1 vo l.length (opsV l)) (hB : B ≤ w.heap.size) :
    Calls Tryd.prog 10 #[vn, vo] w (RowP (rowT (f + 1) n l) w) := by
  obtain ⟨N, hN⟩ : ∃ N, N = l.length := ⟨_, rfl⟩
  have hN0 : 0 < N := by
    rw [hN]
    exact List.length_pos_iff.2 hne
  obtain ⟨m, hm⟩ : ∃ m, m = lm (levs l) N := ⟨_, rfl⟩
  have hmN : m < N := by rw [hm]; exact lm_lt _ _ hN0
  obtain ⟨on, hon⟩ : ∃ on, on = (l.getD m (0, 0)).1 := ⟨_, rfl⟩
  have hT : rowT (f + 1) n l = .join on (rowT f n (l.take m)) (rowT f (l.getD m (0, 0)).2 (l.drop (m + 1))) := by
    cases l with
    | nil => exact absurd rfl hne
    | cons t l =>
      rw [hon, hm, hN]
      rfl
  rw [hT]
  obtain ⟨n1, hn1, sn1⟩ := hn.to (P := Tryd.prog) 22 2 Tryd.underlying22 (by kernel_rfl) (k := m + 1) (by omega)
  obtain ⟨n2, hn2, sn2⟩ := hn.cut (P := Tryd.prog) 22 2 Tryd.underlying22 (by kernel_rfl) (k := m + 1) (by omega)
  obtain ⟨o1, ho1, so1⟩ := ho.to (P := Tryd.prog) 23 9 Tryd.underlying23 (by kernel_rfl) (k := m) (by omega)
  obtain ⟨o2, ho2, so2⟩ := ho.cut (P := Tryd.prog) 23 9 Tryd.underlying23 (by kernel_rfl) (k := m + 1) (by omega)
  rw [Nat.mul_one, numsV_take] at sn1
  rw [Nat.mul_one, numsV_drop n l (by omega)] at sn2
  rw [Nat.mul_one, show (opsV l).take m = opsV (l.take m) by simp [opsV, List.map_take]] at so1
  rw [Nat.mul_one, show (opsV l).drop (m + 1) = opsV (l.drop (m + 1)) by simp [opsV, List.map_drop]] at so2
  have C1 : Hid (∀ W, Below w.heap.size w W → Calls Tryd.prog 10 #[n1, o1] W (RowP (rowT f n (l.take m)) W)) := Lib.hid fun W hW => by
    refine ih n (l.take m) n1 o1 W B (by rw [List.length_take]; omega) (by rw [List.length_take]; omega) (fun t ht => hl t (List.mem_of_mem_take ht)) ?_ ?_ (Nat.le_trans hB hW.size)
    · have e : (l.take m).length + 1 = m + 1 := by rw [List.length_take]; omega
      rw [e]; exact sn1.below (hW.mono hB)
    · have e : (l.take m).length = m := by rw [List.length_take]; omega
      rw [e]; exact so1.below (hW.mono hB)
  have C2 : Hid (∀ W, Below w.heap.size w W → Calls Tryd.prog 10 #[n2, o2] W (RowP (rowT f (l.getD m (0, 0)).2 (l.drop (m + 1))) W)) := Lib.hid fun W hW => by
    refine ih _ (l.drop (m + 1)) n2 o2 W B (by rw [List.length_drop]; omega) (by rw [List.length_drop]; omega) (fun t ht => hl t (List.mem_of_mem_drop ht)) ?_ ?_ (Nat.le_trans hB hW.size)
    · have e : (l.drop (m + 1)).length + 1 = l.length + 1 - (m + 1) := by rw [List.length_drop]; omega
      rw [e]; exact sn2.below (hW.mono hB)
    · have e : (l.drop (m + 1)).length = l.length - (m + 1) := by rw [List.length_drop]
      rw [e]; exact so2.below (hW.mono hB)
  obtain ⟨ao, co, bo, oo, rfl, -, -, ji, hbo, jc⟩ := ho.open (P := Tryd.prog) 23 9 Tryd.underlying23 (by kernel_rfl)
  rw [← hN] at ho1 ho2 ji hbo jc ⊢
  have HJ : Hid (∀ (k : Nat) (w' : World), k < N → (Instr.indexAt 23 (.slice ao N co) (.int .i64 (k : Int))).run Tryd.prog w' = .ok (.pointer (some ⟨bo, oo + k, none⟩)) w') := Lib.hid fun k w' hk => by rw [ji k w' hk, Nat.mul_one]
  have hlo : ∀ k, k < N → (l.getD k (0, 0)).1 < 18 := fun k hk => hl _ (getD_mem (by omega))
  have HCE : Hid (∀ (k : Nat) (W : World), k < N → Below w.heap.size w W → W.cell? ⟨bo, oo + k, none⟩ = some (.string (S (opB (l.getD k (0, 0)).1)))) := Lib.hid fun k W hk hW => by
    have hlt : bo < w.heap.size := by omega
    rw [hW.cell (p := ⟨bo, oo + k, none⟩) hlt, jc k (by omega), opsV, List.getElem?_map, List.getElem?_eq_getElem (by omega)]
    simp [List.getD, List.getElem?_eq_getElem (show k < l.length by omega)]
  have HLO := Lib.hid hlo
  have HLM : Hid (∀ k, k < N → lm (levs l) (k + 1) = if opLev (l.getD k (0, 0)).1 ≤ opLev (l.getD (lm (levs l) k) (0, 0)).1 then k else lm (levs l) k) := Lib.hid fun k hk => by
    have e : ∀ j, j < N → (levs l).getD j 0 = opLev (l.getD j (0, 0)).1 := fun j hj => by
      simp [levs, List.getD, List.getElem?_eq_getElem (show j < l.length by omega)]
    have hlt : lm (levs l) k < N := Nat.lt_of_lt_of_le (lm_at _ k) hk
    rw [lm, e k hk, e _ hlt]
  have HLT : Hid (∀ k, k ≤ N → lm (levs l) k < N ∨ k = 0) := Lib.hid fun k hk => by
    by_cases h0 : k = 0
    · exact .inr h0
    · exact .inl (Nat.lt_of_lt_of_le (lm_lt (levs l) k (by omega)) hk)
  have HM := Lib.hid hm
  have HON := Lib.hid hon
  have HMN := Lib.hid hmN
  have HBB := Lib.hid hB
  have hN12 : N ≤ 12 := by rw [hN]; exact hl12
  have CL : Hid (∀ (o : Nat), o < 18 → ∀ W, Calls Tryd.prog 6 #[.string (S (opB o))] W fun e w' => e = .returned (.int .i64 (opLev o : Int)) ∧ Below W.heap.size W w') := Lib.hid fun o ho W => rlevel_op ho W
  have hN1 : ((N : Int) == 0) = false := by rw [beq_eq_false_iff_ne]; omega
  have hbo2 : bo < w.heap.size := by omega
  clear hN hne hm hmN hon hT hlf hl12 hl hn ho hB sn1 sn2 so1 so2 ji hbo jc hlo ih
  go_enter Tryd.func10, Tryd.ntmps10
  go_wp2_with fail
  obtain ⟨W1, hW1⟩ : ∃ W1, W1 = w.alloc (.cells #[.int .i64 0, .int .i64 0, .string ⟨#[]⟩, .string ⟨#[]⟩, .slice none 0 0] 38) := ⟨_, rfl⟩
  have HBX : Hid (Blk W1 w.heap.size 38 #[.int .i64 0, .int .i64 0, .string ⟨#[]⟩, .string ⟨#[]⟩, .slice none 0 0]) := Lib.hid (by rw [hW1]; exact Blk.at rfl)
  have HB1 : Hid (Below w.heap.size w W1 ∧ W1.heap.size = w.heap.size + 1) := Lib.hid (by rw [hW1]; exact ⟨(Below.refl _ _).alloc (Nat.le_refl _) _, by simp⟩)
  first | rw [← hW1] | (change Code.wp _ _ _ _ (w.alloc (.cells #[.int .i64 0, .int .i64 0, .string ⟨#[]⟩, .string ⟨#[]⟩, .slice none 0 0] 38)); rw [← hW1])
  clear hW1
  have HBW : Hid (∀ W, Below W1.heap.size W1 W → Below w.heap.size w W) := Lib.hid fun W h => HB1.out.1.trans (h.mono HB1.out.1.size)
  go_loopw [5, 6] (fun a i wr => ∃ k : Nat, k ≤ N ∧ i = .int .i64 k ∧ a = .int .i64 ((lm (levs l) k : Nat) : Int) ∧ Hid (Below W1.heap.size W1 wr)) (fun _ i _ => N - (intOf i).toNat)
  case atStart => exact ⟨0, Nat.zero_le _, rfl, rfl, Lib.hid (Below.refl _ _)⟩
  case round =>
    obtain ⟨k, hk, rfl, rfl, hbl⟩ := hrel
    by_cases hlt : k < N
    · obtain ⟨q, hq⟩ : ∃ q, q = lm (levs l) k := ⟨_, rfl⟩
      have hqN : q < N := by
        rcases HLT.out k hk with h | h
        · rw [hq]; exact h
        · rw [hq, h]; exact hN0
      have hstep := HLM.out k hlt
      rw [← hq] at hstep ⊢
      have j1 := fun W => HJ.out k W hlt
      have j2 := fun W => HJ.out q W hqN
      have HC1 : Hid (∀ W, Below W1.heap.size W1 W → W.cell? ⟨bo, oo + k, none⟩ = some (.string (S (opB (l.getD k (0, 0)).1))) ∧ W.cell? ⟨bo, oo + q, none⟩ = some (.string (S (opB (l.getD q (0, 0)).1)))) := Lib.hid fun W h => ⟨HCE.out k W hlt (HBW.out W h), HCE.out q W hqN (HBW.out W h)⟩
      have hok := HLO.out k hlt
      have hoa := HLO.out q hqN
      generalize (l.getD k (0, 0)).1 = ok at HC1 hok hstep
      generalize (l.getD q (0, 0)).1 = oa at HC1 hoa hstep
      obtain ⟨d1, d2⟩ := HC1.out wr hbl.out
      have HX : Hid (Below W1.heap.size W1 wr.drew) := Lib.hid hbl.out.drew
      have HQ := Lib.hid hq
      clear hq
      by_cases hcmp : opLev ok ≤ opLev oa
      · have hci : ((opLev ok : Nat) : Int) ≤ ((opLev oa : Nat) : Int) := by omega
        rw [if_pos hcmp] at hstep
        have HST := Lib.hid hstep
        clear hstep hcmp
        go_wp2_with fail
        go_region_with (first
          | (go_at_call 6; refine (CL.out _ ?_ _).mono ?_; (first | exact hok | exact hoa); rintro e w5 ⟨rfl, hb5⟩; have HX := Lib.hid (HX.out.trans (hb5.mono HX.out.size)); obtain ⟨d1, d2⟩ := HC1.out _ HX.out; clear hb5))
        all_goals
          go_wp2_with fail
          go_roundw
          case rel => exact ⟨k + 1, by omega, by go_num, by rw [HST.out], HX⟩
          case measure => simp [intOf]; omega
      · have hci : ((opLev oa : Nat) : Int) < ((opLev ok : Nat) : Int) := by omega
        rw [if_neg hcmp] at hstep
        have HST := Lib.hid hstep
        clear hstep hcmp
        go_wp2_with fail
        go_region_with (first
          | (go_at_call 6; refine (CL.out _ ?_ _).mono ?_; (first | exact hok | exact hoa); rintro e w5 ⟨rfl, hb5⟩; have HX := Lib.hid (HX.out.trans (hb5.mono HX.out.size)); obtain ⟨d1, d2⟩ := HC1.out _ HX.out; clear hb5))
        all_goals
          go_wp2_with fail
          go_roundw
          case rel => exact ⟨k + 1, by omega, by go_num, by rw [HST.out], HX⟩
          case measure => simp [intOf]; omega
    · have hkN : k = N := by omega
      rw [hkN, ← HM.out]
      subst hkN
      obtain ⟨m1, hm1⟩ : ∃ m1, m1 = m + 1 := ⟨_, rfl⟩
      rw [← hm1] at hn1 hn2 ho2
      have hv1 : (m : Int) + 1 = (m1 : Int) := by omega
      have hwm : wrap64 (m1 : Int) = (m1 : Int) := wrap_id ⟨by omega, by have := HMN.out; omega⟩
      have hwm2 : IntKind.i64.wrap (m1 : Int) = (m1 : Int) := IntWalk.i64_in _ ⟨by omega, by have := HMN.out; omega⟩
      clear hm1
      have j1 := fun W => HJ.out m W HMN.out
      have HCD : Hid (∀ W, Below W1.heap.size W1 W → W.cell? ⟨bo, oo + m, none⟩ = some (.string (S (opB on)))) := Lib.hid fun W h => by rw [HON.out]; exact HCE.out m W HMN.out (HBW.out W h)
      have d1 := HCD.out wr hbl.out
      have HX : Hid (Below W1.heap.size W1 wr.drew) := Lib.hid hbl.out.drew
      have HBO : Hid (∀ W, Below W1.heap.size W1 W → bo < W.heap.size) := Lib.hid fun W h => by have h1 := (HBW.out W h).size; omega
      have HFB : Hid (∀ W, Below W1.heap.size W1 W → Blk W w.heap.size 38 #[.int .i64 0, .int .i64 0, .string ⟨#[]⟩, .string ⟨#[]⟩, .slice none 0 0]) := Lib.hid fun W h => HBX.out.below h HBX.out.lt
      obtain ⟨st, hst⟩ : ∃ st, st = S (opB on) := ⟨_, rfl⟩
      rw [← hst] at d1 HCD
      have HST := Lib.hid hst
      clear hst
      go_wp2_with fail
      go_region_with (first
        | (go_at_call_of 10 n1; refine (C1.out _ ?_).mono ?_; exact HBW.out _ HX.out; rintro e w6 ⟨k1, i1, s1, p1, q1, c1, rfl, hE1, hb6⟩; have H6 := Lib.hid (And.intro hE1 hb6); have HX6 := Lib.hid (HX.out.trans (hb6.mono HX.out.size)); have d6 := HCD.out _ HX6.out; clear hE1 hb6)
        | (go_at_call_of 10 n2; refine (C2.out _ ?_).mono ?_; exact HBW.out _ HX6.out; rintro e w7 ⟨k2, i2, s2, p2, q2, c2, rfl, hE2, hb7⟩; have H7 := Lib.hid (And.intro hE2 hb7); have HX7 := Lib.hid (HX6.out.trans (hb7.mono HX6.out.size)); have d7 := HCD.out _ HX7.out; have l7 := HBO.out _ HX7.out; have y0 := (HFB.out _ HX7.out).cell 0; have y1 := (HFB.out _ HX7.out).cell 1; have y2 := (HFB.out _ HX7.out).cell 2; have y3 := (HFB.out _ HX7.out).cell 3; have y4 := (HFB.out _ HX7.out).cell 4; simp at y0 y1 y2 y3 y4; have f0 := (HFB.out _ HX7.out).free 0; have f1 := (HFB.out _ HX7.out).free 1; have f2 := (HFB.out _ HX7.out).free 2; have f3 := (HFB.out _ HX7.out).free 3; have f4 := (HFB.out _ HX7.out).free 4; have hgl := (HFB.out _ HX7.out).lt; clear hE2 hb7))
      all_goals
        have K7 := HFB.out _ HX7.out
        have HF : Hid (∃ WF, WF = (((((w7.setCell ⟨w.heap.size, 0, none⟩ (.int .i64 4)).setCell ⟨w.heap.size, 1, none⟩ (.int .i64 0)).setCell ⟨w.heap.size, 2, none⟩ (.string ⟨#[]⟩)).setCell ⟨w.heap.size, 3, none⟩ (.string st)).setCell ⟨w.heap.size, 4, none⟩ (.slice (some ⟨w7.heap.size, 0, none⟩) 2 2)).alloc (.cells #[.int .i64 k1, .int .i64 i1, .string ⟨#[]⟩, .string s1, .slice p1 q1 c1, .int .i64 k2, .int .i64 i2, .string ⟨#[]⟩, .string s2, .slice p2 q2 c2] 38) ∧
            Blk WF w.heap.size 38 #[.int .i64 4, .int .i64 0, .string ⟨#[]⟩, .string st, .slice (some ⟨w7.heap.size, 0, none⟩) 2 2] ∧
            EC WF w.heap.size (.join on (rowT f n (l.take m)) (rowT f (l.getD m (0, 0)).2 (l.drop (m + 1)))) [.int .i64 4, .int .i64 0, .string ⟨#[]⟩, .string st, .slice (some ⟨w7.heap.size, 0, none⟩) 2 2] ∧ Below w.heap.size w WF) := Lib.hid (by
          have hsz := hbl.out.size
          have h1s := HB1.out.2
          have hbut : But w.heap.size w.heap.size w7 ((((((w7.setCell ⟨w.heap.size, 0, none⟩ (.int .i64 4)).setCell ⟨w.heap.size, 1, none⟩ (.int .i64 0)).setCell ⟨w.heap.size, 2, none⟩ (.string ⟨#[]⟩)).setCell ⟨w.heap.size, 3, none⟩ (.string st)).setCell ⟨w.heap.size, 4, none⟩ (.slice (some ⟨w7.heap.size, 0, none⟩) 2 2)).alloc (.cells #[.int .i64 k1, .int .i64 i1, .string ⟨#[]⟩, .string s1, .slice p1 q1 c1, .int .i64 k2, .int .i64 i2, .string ⟨#[]⟩, .string s2, .slice p2 q2 c2] 38)) :=
            ((((((But.refl w.heap.size w.heap.size w7).setG 0 _).setG 1 _).setG 2 _).setG 3 _).setG 4 _).alloc _
          refine ⟨_, rfl, (((((K7.put 0 _).put 1 _).put 2 _).put 3 _).put 4 _).alloc _, ?_, (HBW.out _ HX7.out).trans (hbut.below (Nat.le_refl _) (Nat.le_refl _) (HBW.out _ HX7.out).size)⟩
          refine ⟨w7.heap.size, _, _, _, _, _, _, _, _, _, _, by rw [HST.out], (HBW.out _ HX7.out).size, Blk.at (by simp), ?_, ?_⟩
          · refine EC.from (lo := wr.drew.heap.size) (by show w.heap.size ≤ wr.heap.size; omega) (EC.heap (fun g hg hl => hbut.block g hl (by have : wr.heap.size ≤ g := hg; omega) (by have : wr.heap.size ≤ g := hg; omega)) (H6.out.1.below H7.out.2))
          · have h6 := H6.out.2.size
            refine EC.from (lo := w6.heap.size) (by have : wr.heap.size ≤ w6.heap.size := h6; omega) (EC.heap (fun g hg hl => hbut.block g hl (by have : wr.heap.size ≤ w6.heap.size := h6; omega) (by have : wr.heap.size ≤ w6.heap.size := h6; omega)) H7.out.1))
        clear K7 y0 y1 y2 y3 y4 f0 f1 f2 f3 f4 d1 d6 d7
        obtain ⟨WF, hWF, hk, hec, hbw⟩ := HF.out
        have r0 := hk.cell 0
        have r1 := hk.cell 1
        have r2 := hk.cell 2
        have r3 := hk.cell 3
        have r4 := hk.cell 4
        simp at r0 r1 r2 r3 r4
        have HG := Lib.hid (And.intro hec hbw)
        rw [← hWF]
        clear hWF hk hec hbw HF
        go_wp2_with fail
        refine bodyPost_ret (v := .agg #[.int .i64 4, .int .i64 0, .string ⟨#[]⟩, .string st, .slice (some ⟨w7.heap.size, 0, none⟩) 2 2]) (by simp [results, Tryd.results10, go_sem, r0, r1, r2, r3, r4]) rfl ?_
        exact ⟨4, 0, st, some ⟨w7.heap.size, 0, none⟩, 2, 2, rfl, HG.out.1, HG.out.2⟩
theorem row_any : ∀ f, RowOK f
  | 0 => fun _ _ _ _ _ _ h => absurd h (by omega)
  | f + 1 => fun n l vn vo w B h1 h2 h3 h4 h5 h6 => by
    by_cases hne : l = []
    · subst hne
      exact row_nil f n vn vo w B h4 h5 h6
    · exact row_join f (row_any f) n l hne vn vo w B h1 h2 h3 h4 h5 h6
end Go.Proofs.YtpgneaekflhgnaaDoor
