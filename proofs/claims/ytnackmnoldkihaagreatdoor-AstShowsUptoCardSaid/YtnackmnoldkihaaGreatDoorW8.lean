/-
  The walks of escaped, Literal, Doc.
-/
import Derived.Test.YtnackmnoldkihaaGreatDoorW7
import Derived.Test.YtnackmnoldkihaaGreatDoorW1
import Derived.Deep.AppendLies
set_option linter.unusedVariables false
set_option linter.unusedSimpArgs false
/-
  The walk of part.
-/
namespace Go.Proofs.YtnackmnoldkihaaGreatDoor
open Go.RowKit

set_option maxHeartbeats 1000000 in
set_option maxRecDepth 100000 in
theorem part_no (m : Int) (hm : m ≤ 0) (q : Option Pt) (p : Pt) (w : World) (d : Nat) (c : List Value) (pv : Value) (hp : PtC w w.heap.size d p c) :
 Calls Tryz.prog 88 #[.agg #[.int .i64 m], .agg c.toArray, pv] w fun e w' => e = .returned (.bool false) ∧ Below w.heap.size w w' := by
 obtain ⟨a1, c1, a2, c2, rfl, ⟨h1, h2⟩, ⟨hlw, hlb⟩, hw, hb⟩ := hp.open
 have CD := Lib.hid fun W => deeper_no m W hm
 have BX := Lib.hid (Bx.start w 67 #[.int .i64 m] 44 #[.int .i64 p.kind, .bool p.quoted, .string p.text, .string p.op, .slice a1 p.word.length c1, .slice a2 p.body.length c2])
 clear hw hb hp
 go_enter Tryz.func88, Tryz.ntmps88
 go_wp2_with fail
 refine (CD.out _).mono ?_
 rintro e w1 ⟨m', rfl, hb0⟩
 have BXw1 := Lib.hid (Bx.later BX.out hb0)
 clear hb0
 have K0BXw1 := Lib.hid BXw1.out.b0
 have K1BXw1 := Lib.hid BXw1.out.b1
 have hBBXw1 := BXw1.out.hb
 obtain ⟨b0, bf, bl⟩ := K0BXw1.out.box1
 obtain ⟨p0, p1, p2, p3, p4, p5, pl⟩ := K1BXw1.out.box6
 go_wp2_with fail
 go_ret
 exact ⟨ret_bool rfl, bg⟩

set_option maxHeartbeats 1000000 in
set_option maxRecDepth 100000 in
theorem part_yes (wd : List Pt → Bool) (ls : List Nd → Bool) (m : Int) (hm : 0 < m) (hm2 : m ≤ 9223372036854775807) (hwd : WordAt (m - 1) wd) (hls : ListAt (m - 1) ls) (q : Option Pt) (p : Pt) (w : World) (d : Nat) (c : List Value) (pv : Value) (hv : Held w) (hp : PtC w w.heap.size d p c) (hq : PrevAt w w.heap.size d q pv) :
 Calls Tryz.prog 88 #[.agg #[.int .i64 m], .agg c.toArray, pv] w fun e w' => e = .returned (.bool (partB wd ls q p)) ∧ Below w.heap.size w w' := by
 have HP := Lib.hid hp
 obtain ⟨a1, c1, a2, c2, rfl, ⟨h1, h2⟩, ⟨hlw, hlb⟩, hw, hb⟩ := hp.open
 obtain ⟨lw, hlw0⟩ : ∃ n, p.word.length = n := ⟨_, rfl⟩
 obtain ⟨lb, hlb0⟩ : ∃ n, p.body.length = n := ⟨_, rfl⟩
 rw [hlw0] at hlw hw HP ⊢
 rw [hlb0] at hlb hb HP ⊢
 obtain ⟨qd, hqd⟩ : ∃ b, p.quoted = b := ⟨_, rfl⟩
 rw [hqd] at HP ⊢
 have CL : Hid (∀ W, Below w.heap.size w W → Calls Tryz.prog 108 #[.agg #[.int .i64 (m - 1)], .agg #[.int .i64 p.kind, .bool qd, .string p.text, .string p.op, .slice a1 lw c1, .slice a2 lb c2], pv] W fun e w' => e = .returned (.bool (litB q p)) ∧ Below W.heap.size W w') :=
  Lib.hid fun W hW => lit_any q p (m - 1) W d _ pv (HP.out.later hW) (hq.keep hW hW.size)
 have CP : Hid (∀ W, Below w.heap.size w W → Calls Tryz.prog 109 #[.agg #[.int .i64 (m - 1)], .agg #[.int .i64 p.kind, .bool qd, .string p.text, .string p.op, .slice a1 lw c1, .slice a2 lb c2]] W fun e w' => e = .returned (.bool (paramB wd p)) ∧ Below W.heap.size W w') :=
  Lib.hid fun W hW => param_any wd (m - 1) hwd p W d _ (hv.below hv.2 hW) (HP.out.later hW)
 have CB := Lib.hid (hls.reads hv hb true)
 have CS : Hid (∀ W, Below w.heap.size w W → Calls Tryz.prog 31 #[.string p.text] W fun e w' => e = .returned (.bool (sumB (L p.text))) ∧ Below W.heap.size W w') := Lib.hid fun W _ => sum_any p.text W (by unfold maxLen; omega)
 have CD := Lib.hid fun W => deeper_yes m W hm hm2
 obtain ⟨r, hr⟩ : ∃ r, partB wd ls q p = r := ⟨_, rfl⟩
 rw [hr]
 rw [partB, hqd] at hr
 obtain ⟨lt, hlt⟩ : ∃ b, litB q p = b := ⟨_, rfl⟩
 obtain ⟨pm, hpm⟩ : ∃ b, paramB wd p = b := ⟨_, rfl⟩
 obtain ⟨sm, hsm⟩ : ∃ b, sumB (L p.text) = b := ⟨_, rfl⟩
 obtain ⟨lr, hlr⟩ : ∃ b, (ls p.body && (true || !p.body.isEmpty)) = b := ⟨_, rfl⟩
 obtain ⟨hh, hhh⟩ : ∃ b, (qd && hollowB q) = b := ⟨_, rfl⟩
 rw [hlt] at CL hr
 rw [hpm] at CP hr
 rw [hsm] at CS hr
 rw [hlr] at CB
 rw [show (ls p.body && (true || !p.body.isEmpty)) = ls p.body by simp] at hlr
 rw [hlr, hhh] at hr
 have HR := Lib.hid hr
 have HHH := Lib.hid hhh
 have HQ := Lib.hid hq
 have HLW := Lib.hid hlw0
 have HLB := Lib.hid hlb0
 have BX := Lib.hid (Bx.start w 67 #[.int .i64 m] 44 #[.int .i64 p.kind, .bool qd, .string p.text, .string p.op, .slice a1 lw c1, .slice a2 lb c2])
 obtain ⟨op, hop⟩ : ∃ op, pv = .pointer op := by
  cases q with
  | none => exact ⟨_, hq⟩
  | some x => obtain ⟨b, o, c, e, _⟩ := hq; exact ⟨_, e⟩
 subst hop
 clear hqd hw hb hp hlt hpm hsm hlr hr hhh hq hlw0 hlb0
 cases qd with
 | false =>
   go_enter Tryz.func88, Tryz.ntmps88
   go_wp2_with fail
   refine (CD.out _).mono ?_
   rintro e w1 ⟨rfl, hb0⟩
   have BXw1 := Lib.hid (Bx.later BX.out hb0)
   have BX1 := Lib.hid (Bx.set0 BXw1.out 0 (.int .i64 (m - 1)))
   clear hb0
   have K0BXw1 := Lib.hid BXw1.out.b0
   have K1BXw1 := Lib.hid BXw1.out.b1
   have hBBXw1 := BXw1.out.hb
   obtain ⟨b0, bf, bl⟩ := K0BXw1.out.box1
   obtain ⟨p0, p1, p2, p3, p4, p5, pl⟩ := K1BXw1.out.box6
   go_upto_region 2 with fail
   go_cut [42] (fun s42 W => s42 = .bool hh ∧ Bx w W 67 #[.int .i64 (m - 1)] 44 #[.int .i64 p.kind, .bool false, .string p.text, .string p.op, .slice a1 lw c1, .slice a2 lb c2])
   case first =>
    go_wp2_with fail
    go_meet
    exact ⟨by rw [← HHH.out]; rfl, BX1.out⟩
   case rest =>
    obtain ⟨rfl, bx2⟩ := hcut
    have BX2 := Lib.hid bx2
    clear bx2
    have K0BX2 := Lib.hid BX2.out.b0
    have K1BX2 := Lib.hid BX2.out.b1
    have hBBX2 := BX2.out.hb
    obtain ⟨b0, bf, bl⟩ := K0BX2.out.box1
    obtain ⟨p0, p1, p2, p3, p4, p5, pl⟩ := K1BX2.out.box6
    cases hh with
    | true =>
      have HE : Hid (r = false) := Lib.hid (by rw [← HR.out]; rfl)
      go_wp2_with fail
      go_ret
      exact ⟨ret_bool HE.out.symm, bg⟩
    | false =>
      cases hk1 : (p.kind == 1) with
      | true =>
        have HE : Hid (r = lt) := Lib.hid (by rw [← HR.out, hk1]; rfl)
        go_wp2_with fail
        refine (CL.out _ bg).mono ?_
        rintro e w3 ⟨rfl, hb0⟩
        obtain ⟨hcw3, hfw3⟩ := bcell hb0
        have hzw3 := hb0.size
        try simp only [World.size_alloc, World.size_setCell, World.size_drew, size_drewN] at hzw3
        have hBw3 : Below w.heap.size w w3 := since hb0 bg
        have BXw3 := Lib.hid (Bx.later BX2.out (since hb0 bg))
        clear hb0
        go_wp2_with fail
        go_ret
        exact ⟨ret_bool HE.out.symm, bg⟩
      | false =>
        cases hk2 : (p.kind == 2) with
        | true =>
          have HE : Hid (r = pm) := Lib.hid (by rw [← HR.out, hk1, hk2]; rfl)
          go_wp2_with fail
          refine (CP.out _ bg).mono ?_
          rintro e w3 ⟨rfl, hb0⟩
          obtain ⟨hcw3, hfw3⟩ := bcell hb0
          have hzw3 := hb0.size
          try simp only [World.size_alloc, World.size_setCell, World.size_drew, size_drewN] at hzw3
          have hBw3 : Below w.heap.size w w3 := since hb0 bg
          have BXw3 := Lib.hid (Bx.later BX2.out (since hb0 bg))
          clear hb0
          go_wp2_with fail
          go_ret
          exact ⟨ret_bool HE.out.symm, bg⟩
        | false =>
          cases hk3 : (p.kind == 3) with
          | true =>
            have HE : Hid (r = ((L p.text).isEmpty && ((L p.op).isEmpty && (p.word.isEmpty && lr)))) := Lib.hid (by rw [← HR.out, hk1, hk2, hk3]; rfl)
            cases hte : (L p.text).isEmpty with
            | false =>
              have e1 : p.text.toList.isEmpty = false := by rw [isEmpty_L]; exact hte
              rw [hte] at HE
              clear hte
              go_wp2_with fail
              go_ret
              exact ⟨ret_bool HE.out.symm, bg⟩
            | true =>
              have e1 : p.text.toList.isEmpty = true := by rw [isEmpty_L]; exact hte
              rw [hte] at HE
              clear hte
              cases hoe : (L p.op).isEmpty with
              | false =>
                have e2 : p.op.toList.isEmpty = false := by rw [isEmpty_L]; exact hoe
                rw [hoe] at HE
                clear hoe
                go_wp2_with fail
                go_ret
                exact ⟨ret_bool HE.out.symm, bg⟩
              | true =>
                have e2 : p.op.toList.isEmpty = true := by rw [isEmpty_L]; exact hoe
                rw [hoe] at HE
                clear hoe
                rcases Nat.eq_zero_or_pos lw with h0 | h0
                · subst h0
                  rw [nil_of_len HLW.out rfl] at HE
                  go_wp2_with fail
                  refine (CB.out _ bg).mono ?_
                  rintro e w3 ⟨rfl, hb0⟩
                  obtain ⟨hcw3, hfw3⟩ := bcell hb0
                  have hzw3 := hb0.size
                  try simp only [World.size_alloc, World.size_setCell, World.size_drew, size_drewN] at hzw3
                  have hBw3 : Below w.heap.size w w3 := since hb0 bg
                  have BXw3 := Lib.hid (Bx.later BX2.out (since hb0 bg))
                  clear hb0
                  go_wp2_with fail
                  go_ret
                  exact ⟨ret_bool HE.out.symm, bg⟩
                · rw [not_nil_of_len HLW.out h0] at HE
                  have e3 : ((lw : Int) == 0) = false := by rw [beq_eq_false_iff_ne]; omega
                  go_wp2_with fail
                  go_ret
                  exact ⟨ret_bool HE.out.symm, bg⟩
          | false =>
            cases hk4 : (p.kind == 4) with
            | true =>
              have HE : Hid (r = (sm && ((L p.op).isEmpty && (p.word.isEmpty && p.body.isEmpty)))) := Lib.hid (by rw [← HR.out, hk1, hk2, hk3, hk4]; rfl)
              go_wp2_with fail
              refine (CS.out _ bg).mono ?_
              rintro e w3 ⟨rfl, hb0⟩
              obtain ⟨hcw3, hfw3⟩ := bcell hb0
              have hzw3 := hb0.size
              try simp only [World.size_alloc, World.size_setCell, World.size_drew, size_drewN] at hzw3
              have hBw3 : Below w.heap.size w w3 := since hb0 bg
              have BXw3 := Lib.hid (Bx.later BX2.out (since hb0 bg))
              clear hb0
              clear b0 bf bl p0 p1 p2 p3 p4 p5 pl
              have K0BXw3 := Lib.hid BXw3.out.b0
              have K1BXw3 := Lib.hid BXw3.out.b1
              have hBBXw3 := BXw3.out.hb
              obtain ⟨b0, bf, bl⟩ := K0BXw3.out.box1
              obtain ⟨p0, p1, p2, p3, p4, p5, pl⟩ := K1BXw3.out.box6
              cases sm with
              | false =>
                go_wp2_with fail
                go_ret
                exact ⟨ret_bool HE.out.symm, bg⟩
              | true =>
                cases hoe : (L p.op).isEmpty with
                | false =>
                  have e2 : p.op.toList.isEmpty = false := by rw [isEmpty_L]; exact hoe
                  rw [hoe] at HE
                  clear hoe
                  go_wp2_with fail
                  go_ret
                  exact ⟨ret_bool HE.out.symm, bg⟩
                | true =>
                  have e2 : p.op.toList.isEmpty = true := by rw [isEmpty_L]; exact hoe
                  rw [hoe] at HE
                  clear hoe
                  by_cases h0 : lw + lb = 0
                  · have e3 : ((lw : Int) + (lb : Int) == 0) = true := by rw [beq_iff_eq]; omega
                    rw [nil_of_len HLW.out (by omega), nil_of_len HLB.out (by omega)] at HE
                    go_wp2_with fail
                    go_ret
                    exact ⟨ret_bool HE.out.symm, bg⟩
                  · have e3 : ((lw : Int) + (lb : Int) == 0) = false := by rw [beq_eq_false_iff_ne]; omega
                    have HE2 : Hid (r = false) := Lib.hid (by
                     rw [HE.out]
                     rcases Nat.eq_zero_or_pos lw with h1 | h1
                     · rw [nil_of_len HLW.out h1, not_nil_of_len HLB.out (by omega)]; rfl
                     · rw [not_nil_of_len HLW.out h1]; rfl)
                    go_wp2_with fail
                    go_ret
                    exact ⟨ret_bool HE2.out.symm, bg⟩
            | false =>
              have HE : Hid (r = false) := Lib.hid (by rw [← HR.out, hk1, hk2, hk3, hk4]; rfl)
              go_wp2_with fail
              go_ret
              exact ⟨ret_bool HE.out.symm, bg⟩
 | true =>
   go_enter Tryz.func88, Tryz.ntmps88
   go_wp2_with fail
   refine (CD.out _).mono ?_
   rintro e w1 ⟨rfl, hb0⟩
   have BXw1 := Lib.hid (Bx.later BX.out hb0)
   have BX1 := Lib.hid (Bx.set0 BXw1.out 0 (.int .i64 (m - 1)))
   clear hb0
   have K0BXw1 := Lib.hid BXw1.out.b0
   have K1BXw1 := Lib.hid BXw1.out.b1
   have hBBXw1 := BXw1.out.hb
   obtain ⟨b0, bf, bl⟩ := K0BXw1.out.box1
   obtain ⟨p0, p1, p2, p3, p4, p5, pl⟩ := K1BXw1.out.box6
   go_upto_region 2 with fail
   go_cut [42] (fun s42 W => s42 = .bool hh ∧ Bx w W 67 #[.int .i64 (m - 1)] 44 #[.int .i64 p.kind, .bool true, .string p.text, .string p.op, .slice a1 lw c1, .slice a2 lb c2])
   case first =>
    cases q with
    | none =>
      obtain rfl : op = none := by have := HQ.out; rw [PrevAt] at this; simpa using this
      go_wp2_with fail
      go_meet
      exact ⟨by rw [← HHH.out]; rfl, BX1.out⟩
    | some x =>
      obtain ⟨b, o, hopx, hbB, g0, g1, g2⟩ := HQ.out.open
      obtain rfl : op = some ⟨b, o, none⟩ := by simpa using hopx
      have hbB2 := Nat.lt_of_lt_of_le hbB hBBXw1.size
      rw [← hBBXw1.cell (p := ⟨b, o, none⟩) hbB] at g0
      rw [← hBBXw1.cell (p := ⟨b, o + 1, none⟩) hbB] at g1
      rw [← hBBXw1.cell (p := ⟨b, o + 2, none⟩) hbB] at g2
      have hbne : b ≠ w.heap.size := by omega
      have HH : Hid (hh = (x.kind == 1 && (x.quoted && (L x.text).isEmpty))) := Lib.hid (by rw [← HHH.out, hollowB, Bool.true_and])
      obtain ⟨xk, hxk⟩ : ∃ k, x.kind = k := ⟨_, rfl⟩
      obtain ⟨xq, hxq⟩ : ∃ k, x.quoted = k := ⟨_, rfl⟩
      obtain ⟨xt, hxt⟩ : ∃ k, x.text = k := ⟨_, rfl⟩
      rw [hxk] at g0 HH
      rw [hxq] at g1 HH
      rw [hxt] at g2 HH
      clear hxk hxq hxt hopx
      cases hk : (xk == 1) with
      | false =>
        rw [hk] at HH
        go_wp2_with fail
        go_meet
        exact ⟨by rw [HH.out]; rfl, BX1.out⟩
      | true =>
        rw [hk] at HH
        cases xq with
        | false =>
          go_wp2_with fail
          go_meet
          exact ⟨by rw [HH.out]; rfl, BX1.out⟩
        | true =>
          cases he : (L xt).isEmpty with
          | false =>
            have e1 : xt.toList.isEmpty = false := by rw [isEmpty_L]; exact he
            rw [he] at HH
            clear he
            go_wp2_with fail
            go_meet
            exact ⟨by rw [HH.out]; rfl, BX1.out⟩
          | true =>
            have e1 : xt.toList.isEmpty = true := by rw [isEmpty_L]; exact he
            rw [he] at HH
            clear he
            go_wp2_with fail
            go_meet
            exact ⟨by rw [HH.out]; rfl, BX1.out⟩
   case rest =>
    obtain ⟨rfl, bx2⟩ := hcut
    have BX2 := Lib.hid bx2
    clear bx2
    have K0BX2 := Lib.hid BX2.out.b0
    have K1BX2 := Lib.hid BX2.out.b1
    have hBBX2 := BX2.out.hb
    obtain ⟨b0, bf, bl⟩ := K0BX2.out.box1
    obtain ⟨p0, p1, p2, p3, p4, p5, pl⟩ := K1BX2.out.box6
    cases hh with
    | true =>
      have HE : Hid (r = false) := Lib.hid (by rw [← HR.out]; rfl)
      go_wp2_with fail
      go_ret
      exact ⟨ret_bool HE.out.symm, bg⟩
    | false =>
      cases hk1 : (p.kind == 1) with
      | true =>
        have HE : Hid (r = lt) := Lib.hid (by rw [← HR.out, hk1]; rfl)
        go_wp2_with fail
        refine (CL.out _ bg).mono ?_
        rintro e w3 ⟨rfl, hb0⟩
        obtain ⟨hcw3, hfw3⟩ := bcell hb0
        have hzw3 := hb0.size
        try simp only [World.size_alloc, World.size_setCell, World.size_drew, size_drewN] at hzw3
        have hBw3 : Below w.heap.size w w3 := since hb0 bg
        have BXw3 := Lib.hid (Bx.later BX2.out (since hb0 bg))
        clear hb0
        go_wp2_with fail
        go_ret
        exact ⟨ret_bool HE.out.symm, bg⟩
      | false =>
        cases hk2 : (p.kind == 2) with
        | true =>
          have HE : Hid (r = pm) := Lib.hid (by rw [← HR.out, hk1, hk2]; rfl)
          go_wp2_with fail
          refine (CP.out _ bg).mono ?_
          rintro e w3 ⟨rfl, hb0⟩
          obtain ⟨hcw3, hfw3⟩ := bcell hb0
          have hzw3 := hb0.size
          try simp only [World.size_alloc, World.size_setCell, World.size_drew, size_drewN] at hzw3
          have hBw3 : Below w.heap.size w w3 := since hb0 bg
          have BXw3 := Lib.hid (Bx.later BX2.out (since hb0 bg))
          clear hb0
          go_wp2_with fail
          go_ret
          exact ⟨ret_bool HE.out.symm, bg⟩
        | false =>
          cases hk3 : (p.kind == 3) with
          | true =>
            have HE : Hid (r = ((L p.text).isEmpty && ((L p.op).isEmpty && (p.word.isEmpty && lr)))) := Lib.hid (by rw [← HR.out, hk1, hk2, hk3]; rfl)
            cases hte : (L p.text).isEmpty with
            | false =>
              have e1 : p.text.toList.isEmpty = false := by rw [isEmpty_L]; exact hte
              rw [hte] at HE
              clear hte
              go_wp2_with fail
              go_ret
              exact ⟨ret_bool HE.out.symm, bg⟩
            | true =>
              have e1 : p.text.toList.isEmpty = true := by rw [isEmpty_L]; exact hte
              rw [hte] at HE
              clear hte
              cases hoe : (L p.op).isEmpty with
              | false =>
                have e2 : p.op.toList.isEmpty = false := by rw [isEmpty_L]; exact hoe
                rw [hoe] at HE
                clear hoe
                go_wp2_with fail
                go_ret
                exact ⟨ret_bool HE.out.symm, bg⟩
              | true =>
                have e2 : p.op.toList.isEmpty = true := by rw [isEmpty_L]; exact hoe
                rw [hoe] at HE
                clear hoe
                rcases Nat.eq_zero_or_pos lw with h0 | h0
                · subst h0
                  rw [nil_of_len HLW.out rfl] at HE
                  go_wp2_with fail
                  refine (CB.out _ bg).mono ?_
                  rintro e w3 ⟨rfl, hb0⟩
                  obtain ⟨hcw3, hfw3⟩ := bcell hb0
                  have hzw3 := hb0.size
                  try simp only [World.size_alloc, World.size_setCell, World.size_drew, size_drewN] at hzw3
                  have hBw3 : Below w.heap.size w w3 := since hb0 bg
                  have BXw3 := Lib.hid (Bx.later BX2.out (since hb0 bg))
                  clear hb0
                  go_wp2_with fail
                  go_ret
                  exact ⟨ret_bool HE.out.symm, bg⟩
                · rw [not_nil_of_len HLW.out h0] at HE
                  have e3 : ((lw : Int) == 0) = false := by rw [beq_eq_false_iff_ne]; omega
                  go_wp2_with fail
                  go_ret
                  exact ⟨ret_bool HE.out.symm, bg⟩
          | false =>
            cases hk4 : (p.kind == 4) with
            | true =>
              have HE : Hid (r = (sm && ((L p.op).isEmpty && (p.word.isEmpty && p.body.isEmpty)))) := Lib.hid (by rw [← HR.out, hk1, hk2, hk3, hk4]; rfl)
              go_wp2_with fail
              refine (CS.out _ bg).mono ?_
              rintro e w3 ⟨rfl, hb0⟩
              obtain ⟨hcw3, hfw3⟩ := bcell hb0
              have hzw3 := hb0.size
              try simp only [World.size_alloc, World.size_setCell, World.size_drew, size_drewN] at hzw3
              have hBw3 : Below w.heap.size w w3 := since hb0 bg
              have BXw3 := Lib.hid (Bx.later BX2.out (since hb0 bg))
              clear hb0
              clear b0 bf bl p0 p1 p2 p3 p4 p5 pl
              have K0BXw3 := Lib.hid BXw3.out.b0
              have K1BXw3 := Lib.hid BXw3.out.b1
              have hBBXw3 := BXw3.out.hb
              obtain ⟨b0, bf, bl⟩ := K0BXw3.out.box1
              obtain ⟨p0, p1, p2, p3, p4, p5, pl⟩ := K1BXw3.out.box6
              cases sm with
              | false =>
                go_wp2_with fail
                go_ret
                exact ⟨ret_bool HE.out.symm, bg⟩
              | true =>
                cases hoe : (L p.op).isEmpty with
                | false =>
                  have e2 : p.op.toList.isEmpty = false := by rw [isEmpty_L]; exact hoe
                  rw [hoe] at HE
                  clear hoe
                  go_wp2_with fail
                  go_ret
                  exact ⟨ret_bool HE.out.symm, bg⟩
                | true =>
                  have e2 : p.op.toList.isEmpty = true := by rw [isEmpty_L]; exact hoe
                  rw [hoe] at HE
                  clear hoe
                  by_cases h0 : lw + lb = 0
                  · have e3 : ((lw : Int) + (lb : Int) == 0) = true := by rw [beq_iff_eq]; omega
                    rw [nil_of_len HLW.out (by omega), nil_of_len HLB.out (by omega)] at HE
                    go_wp2_with fail
                    go_ret
                    exact ⟨ret_bool HE.out.symm, bg⟩
                  · have e3 : ((lw : Int) + (lb : Int) == 0) = false := by rw [beq_eq_false_iff_ne]; omega
                    have HE2 : Hid (r = false) := Lib.hid (by
                     rw [HE.out]
                     rcases Nat.eq_zero_or_pos lw with h1 | h1
                     · rw [nil_of_len HLW.out h1, not_nil_of_len HLB.out (by omega)]; rfl
                     · rw [not_nil_of_len HLW.out h1]; rfl)
                    go_wp2_with fail
                    go_ret
                    exact ⟨ret_bool HE2.out.symm, bg⟩
            | false =>
              have HE : Hid (r = false) := Lib.hid (by rw [← HR.out, hk1, hk2, hk3, hk4]; rfl)
              go_wp2_with fail
              go_ret
              exact ⟨ret_bool HE.out.symm, bg⟩
end Go.Proofs.YtnackmnoldkihaaGreatDoor
/-
  A slice of bytes that the call itself makes and appends to: what it holds; append; as a string.
-/
namespace Go.Proofs.YtnackmnoldkihaaGreatDoor
open Go.RowKit

/-- The slice value v, in blocks from B on, owns the bytes bl. -/
def OwnB (w : World) (B : Nat) (v : Value) (bl : List UInt8) : Prop := w.ownsRow B 5 1 v bl.length (bl.map fun u => Value.int .u8 ((u.toNat : Nat) : Int))

theorem OwnB.nil (w : World) (B : Nat) : OwnB w B (.slice none 0 0) [] := World.ownsRow_nil _ _ _ _

/-- Its form. -/
theorem OwnB.form {w : World} {B : Nat} {v : Value} {bl : List UInt8} (h : OwnB w B v bl) : (v = .slice none 0 0 ∧ bl = []) ∨ ∃ g cap, v = .slice (some ⟨g, 0, none⟩) bl.length cap ∧ B ≤ g ∧ g < w.heap.size ∧ bl.length ≤ cap ∧ BytesAt w g bl := by
 obtain ⟨h1, h2⟩ := h
 rcases h2 with ⟨h2, h3⟩ | ⟨g, cap, cur, rfl, hB, hg, hn, hc, hs, hx⟩
 · exact .inl ⟨h2, List.length_eq_zero_iff.1 h3⟩
 · refine .inr ⟨g, cap, rfl, hB, (Array.getElem?_eq_some_iff.1 hg).1, hn, fun j hj => ⟨?_, ?_⟩⟩
   · have h4 : (bl.map fun u => Value.int .u8 ((u.toNat : Nat) : Int))[j]? = some (.int .u8 ((bl.getD j 0).toNat : Nat)) := by simp [hj, List.getD]
     have h5 : (cur.toList.take (bl.length * 1))[j]? = cur[j]? := by rw [List.getElem?_take_of_lt (by omega)]; simp
     rw [← hx, h5] at h4
     simp [World.cell?, hg, h4]
   · simp [World.frozen?, hg]

theorem OwnB.below {w w' : World} {B : Nat} {v : Value} {bl : List UInt8} (h : OwnB w B v bl) (hb : Below w.heap.size w w') : OwnB w' B v bl := by
 refine ⟨h.1, ?_⟩
 rcases h.2 with h2 | ⟨g, cap, cur, hv, hB, hg, r⟩
 · exact .inl h2
 · exact .inr ⟨g, cap, cur, hv, hB, by rw [hb.block g (Array.getElem?_eq_some_iff.1 hg).1]; exact hg, r⟩

theorem OwnB.alloc {w : World} {B : Nat} {v : Value} {bl : List UInt8} (h : OwnB w B v bl) (o : Obj) : OwnB (w.alloc o) B v bl := World.ownsRow.alloc h o

/-- It has just been made out of bytes that are written out. -/
theorem OwnB.made {w : World} {B : Nat} (bl : List UInt8) (hB : B ≤ w.heap.size) (hl : bl.length ≤ maxLen) {n : Nat} (hn : n = bl.length) {c : Array Value} (hc : c = (bl.map fun u => Value.int .u8 ((u.toNat : Nat) : Int)).toArray) :
 OwnB (w.alloc (.cells c 5)) B (.slice (some ⟨w.heap.size, 0, none⟩) n n) bl := by
 subst hn hc
 refine ⟨by simp, .inr ⟨w.heap.size, bl.length, _, rfl, hB, heap_alloc_new w _, Nat.le_refl _, hl, by simp, ?_⟩⟩
 rw [List.take_of_length_le (by simp)]

theorem info8 : (Tryz.prog.info? 5).map (fun i => (i.zero, i.size, i.bytes)) = some (some (.int .u8 0), 1, 1) := by kernel_rfl

/-- append(out, b, ..): the bytes appended lie at the head of block g. -/
theorem append_bytes {w : World} {ops : Array Oper} {rest : List Oper} {o : Oper} {a : Act} {Q : Exit → Act → World → Prop} (hgd : o.guard = none) (s x : Operand)
 (ho : o.op = .call { callee := .builtin .append, args := #[s, x], argTypes := #[76, 76] }) {B : Nat} {v : Value} {bl : List UInt8} (hs : a.eval s = v) (hown : OwnB w B v bl)
 {g m c : Nat} (cs : List UInt8) (hx : a.eval x = .slice (some ⟨g, 0, none⟩) m c) (hl : cs.length = m) (hcell : ∀ j, j < m → w.cell? ⟨g, j, none⟩ = some (.int .u8 ((cs.getD j 0).toNat : Nat))) (hlen : bl.length + m ≤ 140737488355328) {w0 : World} (hb : Below B w0 w) (hB : B ≤ w.heap.size)
 (h : ∀ v' w', OwnB w' B v' (bl ++ cs) → Below B w0 w' → B ≤ w'.heap.size → wpList Tryz.prog ops Q rest (a.put o.dst v') w') : wpList Tryz.prog ops Q (o :: rest) a w := by
 obtain ⟨i0, hi, hz0, hz1, hz2⟩ := info_parts info8
 refine wpList_append_own w hgd s x 76 ho B 5 i0 (.int .u8 0) 1 1 Tryz.underlying76 hi hz0 hz1 hz2 rfl (by omega) v bl.length _ hs hown ⟨g, 0, none⟩ m c (cs.map fun u => Value.int .u8 ((u.toNat : Nat) : Int)) hx (by simp [hl])
  ?_ (by intro u hu; simp at hu; obtain ⟨y, _, rfl⟩ := hu; rfl) (by unfold maxLen; omega) (by omega) hB ?_
 · intro j u hj
   have hj' : j < cs.length := by
    rcases Nat.lt_or_ge j cs.length with h' | h'
    · exact h'
    · rw [List.getElem?_eq_none (by simpa using h')] at hj; cases hj
   rw [addr_add, Nat.zero_add, hcell j (by omega), ← hj]
   simp [hj', List.getD]
 · intro v' w' h2 h3 _
   refine h v' w' ?_ (hb.grown h3 hB fun k hk => (World.ownsRow.lt hown k hk).1) (Nat.le_trans hB h3.size)
   have : (bl ++ cs).length = bl.length + m := by simp [hl]
   unfold OwnB
   rw [this, List.map_append]
   exact h2

/-- string(out). -/
theorem OwnB.conv {w : World} {B : Nat} {v : Value} {bl : List UInt8} (h : OwnB w B v bl) : (convert 76 9 v).run Tryz.prog w = .ok (.string (S bl)) w := by
 rcases h.form with ⟨rfl, rfl⟩ | ⟨g, cap, rfl, _, _, _, hb⟩
 · exact run_convert_bytes_nil w _ _ Tryz.underlying76 Tryz.underlying5 _ _ _ Tryz.underlying9
 · rw [run_convK _ _ _ Tryz.underlying76 Tryz.underlying5 Tryz.underlying9, hb.bytes rfl]; rfl

theorem cell_new (w : World) (v : Value) (e : TypeId) : (w.alloc (.cells #[v] e)).cell? ⟨w.heap.size, 0, none⟩ = some v := by simp

/-- append(out, c). -/
theorem append_byte {w : World} {ops : Array Oper} {rest : List Oper} {o : Oper} {a : Act} {Q : Exit → Act → World → Prop} (hgd : o.guard = none) (s x : Operand)
 (ho : o.op = .call { callee := .builtin .append, args := #[s, x], argTypes := #[76, 76] }) {B : Nat} {v : Value} {bl : List UInt8} (hs : a.eval s = v) (hown : OwnB w B v bl)
 {g : Nat} (c : UInt8) (hx : a.eval x = .slice (some ⟨g, 0, none⟩) 1 1) (hcell : w.cell? ⟨g, 0, none⟩ = some (.int .u8 ((c.toNat : Nat) : Int))) (hlen : bl.length + 1 ≤ 140737488355328) {w0 : World} (hb : Below B w0 w) (hB : B ≤ w.heap.size)
 (h : ∀ v' w', OwnB w' B v' (bl ++ [c]) → Below B w0 w' → B ≤ w'.heap.size → wpList Tryz.prog ops Q rest (a.put o.dst v') w') : wpList Tryz.prog ops Q (o :: rest) a w :=
 append_bytes hgd s x ho hs hown [c] hx rfl (fun j hj => by obtain rfl : j = 0 := by omega
                                                            simpa using hcell) hlen hb hB h

/-- append(out, c), the new slice written out, and where it lies. -/
theorem append_byte_lies {w : World} {ops : Array Oper} {rest : List Oper} {o : Oper} {a : Act} {Q : Exit → Act → World → Prop} (hgd : o.guard = none) (s x : Operand)
 (ho : o.op = .call { callee := .builtin .append, args := #[s, x], argTypes := #[76, 76] }) {B : Nat} {v : Value} {bl : List UInt8} (hs : a.eval s = v) (hown : OwnB w B v bl)
 {g : Nat} (c : UInt8) (hx : a.eval x = .slice (some ⟨g, 0, none⟩) 1 1) (hcell : w.cell? ⟨g, 0, none⟩ = some (.int .u8 ((c.toNat : Nat) : Int))) (hlen : bl.length + 1 ≤ 140737488355328) (hB : B ≤ w.heap.size)
 (h : ∀ g cap w', OwnB w' B (.slice (some ⟨g, 0, none⟩) (bl.length + 1) cap) (bl ++ [c]) → w.grownBy w' v.ownBlock → (v.ownBlock = some g ∨ g = w.heap.size) → wpList Tryz.prog ops Q rest (a.put o.dst (.slice (some ⟨g, 0, none⟩) (bl.length + 1) cap)) w') : wpList Tryz.prog ops Q (o :: rest) a w := by
 obtain ⟨i0, hi, hz0, hz1, hz2⟩ := info_parts info8
 refine wpList_append_lies w hgd s x 76 ho B 5 i0 (.int .u8 0) 1 1 Tryz.underlying76 hi hz0 hz1 hz2 rfl (by omega) v bl.length _ hs hown ⟨g, 0, none⟩ 1 1 [.int .u8 ((c.toNat : Nat) : Int)] hx rfl
  ?_ (by intro u hu; simp at hu; subst hu; rfl) (by omega) (by unfold maxLen; omega) (by omega) hB _ rfl ?_
 · intro j u hj
   rcases j with _ | j
   · simp at hj; subst hj; rw [addr_add]; exact hcell
   · simp at hj
 · intro g' cap w' h2 h3 h4 _
   refine h g' cap w' ?_ h3 h4
   unfold OwnB
   rw [List.length_append, List.map_append]
   exact h2

theorem cells3 (w : World) (e : TypeId) (x y z : Int) (u v t : UInt8) (hx : x = (u.toNat : Nat)) (hy : y = (v.toNat : Nat)) (hz : z = (t.toNat : Nat)) : ∀ j, j < 3 →
 (w.alloc (.cells #[.int .u8 x, .int .u8 y, .int .u8 z] e)).cell? ⟨w.heap.size, j, none⟩ = some (.int .u8 ((([u, v, t] : List UInt8).getD j 0).toNat : Nat)) := by
 subst hx hy hz
 intro j hj
 match j, hj with
 | 0, _ => simp
 | 1, _ => simp
 | 2, _ => simp

end Go.Proofs.YtnackmnoldkihaaGreatDoor
namespace Go.Proofs.YtnackmnoldkihaaGreatDoor
open Go.RowKit

section
variable {w : World} {B d : Nat}
theorem RdC.open {r : Rd} {c : List Value} (h : RdC w B d r c) : ∃ a1 c1, c = [.int .i64 r.fd, .string r.op, .string r.tag, .slice a1 r.word.length c1] ∧
 (r.op.size ≤ 1048576 ∧ r.tag.size ≤ 1048576) ∧ (r.word.map fun p => p.text.size).sum ≤ 1048576 ∧ r.word.length ≤ 1048576 ∧ PtsIn w B d r.word (.slice a1 r.word.length c1) := by
 obtain ⟨h1, h2, h3, wv, e, h4⟩ := h
 obtain ⟨a1, c1, rfl, z1⟩ := h4.shape
 exact ⟨a1, c1, e, ⟨h1, h2⟩, h3, z1, h4⟩
theorem AsC.open {a : As} {c : List Value} (h : AsC w B d a c) : ∃ a1 c1, c = [.string a.name, .slice a1 a.word.length c1] ∧ a.name.size ≤ 1048576 ∧ a.word.length ≤ 1048576 ∧ PtsIn w B d a.word (.slice a1 a.word.length c1) := by
 obtain ⟨h1, wv, e, h4⟩ := h
 obtain ⟨a1, c1, rfl, z1⟩ := h4.shape
 exact ⟨a1, c1, e, h1, z1, h4⟩
theorem ArC.open {a : Ar} {c : List Value} (h : ArC w B d a c) : ∃ a1 c1 a2 c2, c = [.slice a1 a.words.length c1, .slice a2 a.body.length c2] ∧ (a.words.length ≤ 1048576 ∧ a.body.length ≤ 1048576) ∧ WdsIn w B d a.words (.slice a1 a.words.length c1) ∧ NdsIn w B d a.body (.slice a2 a.body.length c2) := by
 obtain ⟨wv, bv, e, h1, h2⟩ := h
 obtain ⟨a1, c1, rfl, z1⟩ := h1.len
 obtain ⟨a2, c2, rfl, z2⟩ := h2.shape
 exact ⟨a1, c1, a2, c2, e, ⟨z1, z2⟩, h1, h2⟩
end
theorem RdC.later {w w' : World} {d : Nat} {x : Rd} {c : List Value} (h : RdC w w.heap.size d x c) (hb : Below w.heap.size w w') : RdC w' w'.heap.size d x c := h.keep fun _ _ _ _ hs => (hs.below hb).mono hb.size
theorem AsC.later {w w' : World} {d : Nat} {x : As} {c : List Value} (h : AsC w w.heap.size d x c) (hb : Below w.heap.size w w') : AsC w' w'.heap.size d x c := h.keep fun _ _ _ _ hs => (hs.below hb).mono hb.size
theorem ArC.later {w w' : World} {d : Nat} {x : Ar} {c : List Value} (h : ArC w w.heap.size d x c) (hb : Below w.heap.size w w') : ArC w' w'.heap.size d x c := h.keep fun _ _ _ _ hs => (hs.below hb).mono hb.size
theorem PtsIn.later {w w' : World} {d : Nat} {l : List Pt} {v : Value} (h : PtsIn w w.heap.size d l v) (hb : Below w.heap.size w w') : PtsIn w' w'.heap.size d l v := (h.below hb).mono hb.size
theorem NdsIn.later {w w' : World} {d : Nat} {l : List Nd} {v : Value} (h : NdsIn w w.heap.size d l v) (hb : Below w.heap.size w w') : NdsIn w' w'.heap.size d l v := (h.below hb).mono hb.size

theorem litr_one {p : Pt} {l : List Pt} (h : l = [p]) : litrB l = (p.kind == 1) := by subst h; rfl
theorem litr_two {l : List Pt} (h : 2 ≤ l.length) : litrB l = false := by
 match l, h with
 | _ :: _ :: _, _ => rfl

theorem literal_any (r : Rd) (w : World) (d : Nat) (c : List Value) (hp : RdC w w.heap.size d r c) :
 Calls Tryz.prog 15 #[.agg c.toArray] w fun e w' => e = .returned (.bool (litrB r.word)) ∧ Below w.heap.size w w' := by
 obtain ⟨a1, c1, rfl, ⟨h1, h2⟩, _, hlw, hw⟩ := hp.open
 obtain ⟨lw, hlw0⟩ : ∃ n, r.word.length = n := ⟨_, rfl⟩
 rw [hlw0] at hlw hw ⊢
 clear hp
 rcases Nat.eq_zero_or_pos lw with h0 | h0
 · subst h0
   have HR : Hid (litrB r.word = true) := Lib.hid (by rw [List.length_eq_zero_iff.1 hlw0]; rfl)
   clear hlw0 hw
   go_enter Tryz.func15, Tryz.ntmps15
   go_wp2
   go_ret
   exact ⟨ret_bool HR.out.symm, bg⟩
 · by_cases h1 : lw = 1
   · subst h1
     obtain ⟨x, b, o, ⟨xr, hx⟩, hxt, hi, hbB, g0, _, _⟩ := hw.first (by rw [hlw0]; omega)
     have hx2 : r.word = [x] := by rw [hx] at hlw0 ⊢; simp at hlw0; rw [hlw0]
     have HR : Hid (litrB r.word = (x.kind == 1)) := Lib.hid (litr_one hx2)
     obtain ⟨xk, hxk⟩ : ∃ k, x.kind = k := ⟨_, rfl⟩
     rw [hxk] at HR g0
     clear hlw0 hw hx hx2 hxk hxt
     go_enter Tryz.func15, Tryz.ntmps15
     go_wp2
     go_ret
     exact ⟨ret_bool HR.out.symm, bg⟩
   · have HR : Hid (litrB r.word = false) := Lib.hid (litr_two (by omega))
     have e1 : ((lw : Int) == 0) = false := by rw [beq_eq_false_iff_ne]; omega
     have e2 : ((lw : Int) == 1) = false := by rw [beq_eq_false_iff_ne]; omega
     clear hlw0 hw
     go_enter Tryz.func15, Tryz.ntmps15
     go_wp2
     go_ret
     exact ⟨ret_bool HR.out.symm, bg⟩

theorem escL_len (l : List UInt8) : (escL l).length ≤ 2 * l.length := by
 induction l with
 | nil => simp [escL]
 | cons c l ih =>
   have : escL (c :: l) = (if c = 92 ∨ c = 36 ∨ c = 96 then [92, c] else [c]) ++ escL l := rfl
   rw [this, List.length_append, List.length_cons]
   split <;> simp <;> omega
theorem escL_snoc (l : List UInt8) (k : Nat) (c : UInt8) (h : l[k]? = some c) : escL (l.take (k + 1)) = escL (l.take k) ++ (if c = 92 ∨ c = 36 ∨ c = 96 then [92, c] else [c]) := by
 rw [List.take_add_one, h, escL, escL, List.flatMap_append]; simp

set_option maxHeartbeats 1000000 in
set_option maxRecDepth 100000 in
theorem escaped_any (s : ByteArray) (w : World) (hs : s.size ≤ 1048576) :
 Calls Tryz.prog 41 #[.string s] w fun e w' => e = .returned (.string (S (escL (L s)))) ∧ Below w.heap.size w w' := by
 have HM := Lib.hid (bytes_at w s w _ rfl)
 have HB := Lib.hid (below_bytesWorld w 5 s)
 have HZ : Hid (∀ k, (escL ((L s).take k)).length ≤ 2097152) := Lib.hid fun k => by
  have h1 := escL_len ((L s).take k)
  have h2 : ((L s).take k).length ≤ s.size := by rw [List.length_take, L_size]; omega
  omega
 obtain ⟨wb, hwb⟩ : ∃ wb, wb = Lib.bytesWorld w 5 s := ⟨_, rfl⟩
 rw [← hwb] at HM HB
 have HWB := Lib.hid hwb
 clear hwb
 go_enter Tryz.func41, Tryz.ntmps41
 go_wp2_with fail
 rw [← HWB.out]
 go_loopw [3, 9] (fun v i wr => ∃ k : Nat, k ≤ s.size ∧ i = .int .i64 k ∧ OwnB wr wb.heap.size v (escL ((L s).take k)) ∧ Below wb.heap.size wb wr) (fun _ i _ => s.size - (intOf i).toNat)
 case atStart => exact ⟨0, Nat.zero_le _, rfl, OwnB.nil _ _, Below.refl _ _⟩
 case round =>
  obtain ⟨k, hk, rfl, hown, hbw⟩ := hrel
  have HO := Lib.hid hown
  have hwz : w.heap.size < wb.heap.size := by have := HM; rw [HWB.out, Lib.bytesWorld_size]; omega
  have hwz2 := hbw.size
  clear hown
  by_cases hlt : k < s.size
  · have hcell := (hbw.cell (p := ⟨w.heap.size, k, none⟩) hwz).trans (HM.out k hlt)
    have hg := getD_get (l := L s) (k := k) hlt
    obtain ⟨c, hc⟩ : ∃ c, c = (L s).getD k 0 := ⟨_, rfl⟩
    rw [← hc] at hcell hg
    have HE := Lib.hid (escL_snoc (L s) k c hg)
    have hz1 := HZ.out k
    clear hc hg
    obtain ⟨E, hE⟩ : ∃ E, E = escL ((L s).take k) := ⟨_, rfl⟩
    rw [← hE] at HO HE hz1
    clear hE
    by_cases h92 : c = 92
    · have h1 : c = 92 ∨ c = 36 ∨ c = 96 := .inl h92
      have e1 : (((c.toNat : Nat) : Int) == 92) = true := eq_byte (d := 92) h92
      clear h92
      rw [if_pos h1] at HE
      clear h1
      have tok1 : True := trivial
      go_wp2_with (first
       | (at_builtin; have _t := tok1; go_must (refine append_byte rfl _ _ rfl rfl (OwnB.alloc HO.out _) (92 : UInt8) rfl (cell_new _ _ _) (by omega) (Below.alloc hbw (by omega) _) (by simp; omega) ?_; clear _t tok1; intro v1 w1 hown1 hb1 hs1; have HO1 := Lib.hid hown1; have hl1 : (E ++ [(92 : UInt8)]).length ≤ 2097153 := (by simp; omega); clear hown1))
       | (at_builtin; go_must (refine append_byte rfl _ _ rfl rfl (OwnB.alloc HO1.out _) c rfl (cell_new _ _ _) (by omega) (Below.alloc hb1 (by omega) _) (by simp; omega) ?_; intro v2 w2 hown2 hb2 hs2; have HO2 := Lib.hid hown2; clear hown2)))
      go_roundw
      case rel => exact ⟨k + 1, by omega, by go_num, by rw [HE.out]; have := HO2.out; rwa [List.append_assoc] at this, hb2⟩
      case measure => simp [intOf]; omega
    · have e1 : (((c.toNat : Nat) : Int) == 92) = false := ne_byte (d := 92) h92
      by_cases h36 : c = 36
      · have h1 : c = 92 ∨ c = 36 ∨ c = 96 := .inr (.inl h36)
        have e2 : (((c.toNat : Nat) : Int) == 36) = true := eq_byte (d := 36) h36
        clear h92 h36
        rw [if_pos h1] at HE
        clear h1
        have tok1 : True := trivial
        go_wp2_with (first
         | (at_builtin; have _t := tok1; go_must (refine append_byte rfl _ _ rfl rfl (OwnB.alloc HO.out _) (92 : UInt8) rfl (cell_new _ _ _) (by omega) (Below.alloc hbw (by omega) _) (by simp; omega) ?_; clear _t tok1; intro v1 w1 hown1 hb1 hs1; have HO1 := Lib.hid hown1; have hl1 : (E ++ [(92 : UInt8)]).length ≤ 2097153 := (by simp; omega); clear hown1))
         | (at_builtin; go_must (refine append_byte rfl _ _ rfl rfl (OwnB.alloc HO1.out _) c rfl (cell_new _ _ _) (by omega) (Below.alloc hb1 (by omega) _) (by simp; omega) ?_; intro v2 w2 hown2 hb2 hs2; have HO2 := Lib.hid hown2; clear hown2)))
        go_roundw
        case rel => exact ⟨k + 1, by omega, by go_num, by rw [HE.out]; have := HO2.out; rwa [List.append_assoc] at this, hb2⟩
        case measure => simp [intOf]; omega
      · have e2 : (((c.toNat : Nat) : Int) == 36) = false := ne_byte (d := 36) h36
        by_cases h96 : c = 96
        · have h1 : c = 92 ∨ c = 36 ∨ c = 96 := .inr (.inr h96)
          have e3 : (((c.toNat : Nat) : Int) == 96) = true := eq_byte (d := 96) h96
          clear h92 h36 h96
          rw [if_pos h1] at HE
          clear h1
          have tok1 : True := trivial
          go_wp2_with (first
           | (at_builtin; have _t := tok1; go_must (refine append_byte rfl _ _ rfl rfl (OwnB.alloc HO.out _) (92 : UInt8) rfl (cell_new _ _ _) (by omega) (Below.alloc hbw (by omega) _) (by simp; omega) ?_; clear _t tok1; intro v1 w1 hown1 hb1 hs1; have HO1 := Lib.hid hown1; have hl1 : (E ++ [(92 : UInt8)]).length ≤ 2097153 := (by simp; omega); clear hown1))
           | (at_builtin; go_must (refine append_byte rfl _ _ rfl rfl (OwnB.alloc HO1.out _) c rfl (cell_new _ _ _) (by omega) (Below.alloc hb1 (by omega) _) (by simp; omega) ?_; intro v2 w2 hown2 hb2 hs2; have HO2 := Lib.hid hown2; clear hown2)))
          go_roundw
          case rel => exact ⟨k + 1, by omega, by go_num, by rw [HE.out]; have := HO2.out; rwa [List.append_assoc] at this, hb2⟩
          case measure => simp [intOf]; omega
        · have e3 : (((c.toNat : Nat) : Int) == 96) = false := ne_byte (d := 96) h96
          rw [if_neg (by simp [h92, h36, h96])] at HE
          clear h92 h36 h96
          go_wp2_with (at_builtin; go_must (refine append_byte rfl _ _ rfl rfl (OwnB.alloc HO.out _) c rfl (cell_new _ _ _) (by omega) (Below.alloc hbw (by omega) _) (by simp; omega) ?_; intro v2 w2 hown2 hb2 hs2; have HO2 := Lib.hid hown2; clear hown2))
          go_roundw
          case rel => exact ⟨k + 1, by omega, by go_num, by rw [HE.out]; exact HO2.out, hb2⟩
          case measure => simp [intOf]; omega
  · have HR : Hid ((L s).take k = L s) := Lib.hid (List.take_of_length_le (by rw [L_size]; omega))
    rw [HR.out] at HO
    have hcv := HO.out.conv
    go_wp2
    go_ret
    exact ⟨rfl, HB.out.trans (hbw.mono (by omega))⟩
end Go.Proofs.YtnackmnoldkihaaGreatDoor
