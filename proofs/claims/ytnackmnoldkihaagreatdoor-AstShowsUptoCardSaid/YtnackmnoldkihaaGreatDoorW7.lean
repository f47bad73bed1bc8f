/-
  The walk of param.
-/
import Derived.Test.YtnackmnoldkihaaGreatDoorW6
import Derived.Deep.DeepCutAuto
import Derived.Tactics
import Derived.Tactics2
set_option linter.unusedVariables false
set_option linter.unusedSimpArgs false
namespace Go.Proofs.YtnackmnoldkihaaGreatDoor
open Go.RowKit

theorem size_drewN (w : World) (n : Nat) : (w.drewN n).heap.size = w.heap.size := rfl
theorem Blk.at {w : World} {g : Nat} {t : TypeId} {cs : Array Value} (hg : g = w.heap.size) : Blk (w.alloc (.cells cs t)) g t cs := by subst hg; exact Blk.new w t cs
/-- Two boxes that the call has made first, in a world behind w. -/
structure Bx (w W : World) (t0 : TypeId) (c0 : Array Value) (t1 : TypeId) (c1 : Array Value) : Prop where
 b0 : Blk W w.heap.size t0 c0
 b1 : Blk W (w.heap.size + 1) t1 c1
 hb : Below w.heap.size w W
theorem Bx.start (w : World) (t0 : TypeId) (c0 : Array Value) (t1 : TypeId) (c1 : Array Value) : Bx w ((w.alloc (.cells c0 t0)).alloc (.cells c1 t1)) t0 c0 t1 c1 := ⟨(Blk.at rfl).alloc _, Blk.at (by simp), bg⟩
theorem Bx.later {w W W' : World} {t0 t1 : TypeId} {c0 c1 : Array Value} (h : Bx w W t0 c0 t1 c1) (hb : Below W.heap.size W W') : Bx w W' t0 c0 t1 c1 :=
 ⟨h.b0.below hb h.b0.lt, h.b1.below hb h.b1.lt, h.hb.trans (hb.mono h.hb.size)⟩
theorem Bx.set0 {w W : World} {t0 t1 : TypeId} {c0 c1 : Array Value} (h : Bx w W t0 c0 t1 c1) (i : Nat) (u : Value) : Bx w (W.setCell ⟨w.heap.size, i, none⟩ u) t0 (c0.setIfInBounds i u) t1 c1 :=
 ⟨h.b0.put i u, h.b1.far (by simp) u, h.hb.setCell (Nat.le_refl _) u⟩
theorem Bx.drewN {w W : World} {t0 t1 : TypeId} {c0 c1 : Array Value} (h : Bx w W t0 c0 t1 c1) (n : Nat) : Bx w (W.drewN n) t0 c0 t1 c1 := h.later (below_drewN (Below.refl _ _) n)
/-- The first part of a word. -/
theorem PtsIn.first {w : World} {B d : Nat} {l : List Pt} {v : Value} (h : PtsIn w B d l v) (h0 : 0 < l.length) : ∃ x b o, (∃ r, l = x :: r) ∧ x.text.size ≤ 1048576 ∧ (∀ w' : World, (Instr.indexAt 29 v (.int .i64 0)).run Tryz.prog w' = .ok (.pointer (some ⟨b, o, none⟩)) w') ∧ b < B ∧
 w.cell? ⟨b, o, none⟩ = some (.int .i64 x.kind) ∧ w.cell? ⟨b, o + 1, none⟩ = some (.bool x.quoted) ∧ w.cell? ⟨b, o + 2, none⟩ = some (.string x.text) := by
 obtain ⟨d, h⟩ := h.up
 cases l with
 | nil => simp at h0
 | cons x r =>
   obtain ⟨b, o, c, hi, hb, hc, hC, _⟩ := h.at 29 44 Tryz.underlying29 (by kernel_rfl) (k := 0) (x := x) rfl
   obtain ⟨h1, h2, wv, bv, rfl, _⟩ := hC
   exact ⟨x, b, o, ⟨r, rfl⟩, h1, fun w' => hi w', hb, hc 0 _ rfl, hc 1 _ rfl, hc 2 _ rfl⟩
theorem nil_beq {α : Type} {l : List α} {n : Nat} (h : l.length = n) : ((n : Int) == 0) = l.isEmpty := by subst h; cases l <;> simp [List.isEmpty]; omega
theorem nil_lt {α : Type} {l : List α} {n : Nat} (h : l.length = n) : decide ((0 : Int) < (n : Int)) = !l.isEmpty := by subst h; cases l <;> simp [List.isEmpty]

set_option maxHeartbeats 1000000 in
set_option maxRecDepth 100000 in
theorem param_any (wd : List Pt → Bool) (m : Int) (hwd : WordAt m wd) (p : Pt) (w : World) (d : Nat) (c : List Value) (hv : Held w) (hp : PtC w w.heap.size d p c) :
 Calls Tryz.prog 109 #[.agg #[.int .i64 m], .agg c.toArray] w fun e w' => e = .returned (.bool (paramB wd p)) ∧ Below w.heap.size w w' := by
 obtain ⟨a1, c1, a2, c2, rfl, ⟨h1, h2⟩, ⟨hlw, hlb⟩, hw, hb⟩ := hp.open
 obtain ⟨lw, hlw0⟩ : ∃ n, p.word.length = n := ⟨_, rfl⟩
 obtain ⟨lb, hlb0⟩ : ∃ n, p.body.length = n := ⟨_, rfl⟩
 rw [hlw0] at hlw hw ⊢
 rw [hlb0] at hlb hb ⊢
 have CW := Lib.hid (hwd.reads hv hw false)
 have HW := Lib.hid hw
 have CNm : Hid (∀ W, Below w.heap.size w W → Calls Tryz.prog 21 #[.string p.text] W fun e w' => e = .returned (.bool (nameL (L p.text))) ∧ Below W.heap.size W w') := Lib.hid fun W _ => name_any p.text W (by unfold maxLen; omega)
 have CNu : Hid (∀ W, Below w.heap.size w W → Calls Tryz.prog 23 #[.string p.text] W fun e w' => e = .returned (.bool (numB (L p.text))) ∧ Below W.heap.size W w') := Lib.hid fun W _ => number_any p.text W (by unfold maxLen; omega)
 have CSp : Hid (∀ W, Calls Tryz.prog 25 #[.string p.text] W fun e w' => e = .returned (.bool (specB (L p.text))) ∧ W = w') := Lib.hid fun W => special_any p.text W
 have COp : Hid (∀ W, Calls Tryz.prog 29 #[.string p.op] W fun e w' => e = .returned (.bool (oneB opWs (L p.op))) ∧ W = w') := Lib.hid fun W => op_any p.op W
 have CHP : Hid (∀ (t : ByteArray) (W : World), Calls Tryz.prog 117 #[.string t, .string ⟨#[37]⟩] W fun e w' => e = .returned (.bool (List.isPrefixOf [37] (L t))) ∧ W = w') := Lib.hid fun t W => (Tryz.strings_HasPrefix t ⟨#[37]⟩ W).mono fun e w' h => ⟨h.1, h.2.symm⟩
 obtain ⟨r, hr⟩ : ∃ r, paramB wd p = r := ⟨_, rfl⟩
 rw [hr]
 rw [paramB] at hr
 obtain ⟨lg, hlg⟩ : ∃ b, (nameL (L p.text) || numB (L p.text)) = b := ⟨_, rfl⟩
 obtain ⟨nm, hnm⟩ : ∃ b, nameL (L p.text) = b := ⟨_, rfl⟩
 obtain ⟨nu, hnu⟩ : ∃ b, numB (L p.text) = b := ⟨_, rfl⟩
 obtain ⟨sp, hsp⟩ : ∃ b, specB (L p.text) = b := ⟨_, rfl⟩
 obtain ⟨ob, hob⟩ : ∃ b, oneB opWs (L p.op) = b := ⟨_, rfl⟩
 obtain ⟨wr, hwr⟩ : ∃ b, (wd p.word && (!false || !p.word.isEmpty)) = b := ⟨_, rfl⟩
 obtain ⟨pc, hpc⟩ : ∃ b, pctB p = b := ⟨_, rfl⟩
 rw [hwr] at CW
 rw [show (wd p.word && (!false || !p.word.isEmpty)) = wd p.word by simp] at hwr
 rw [hlg, hsp, hob, hpc, hwr] at hr
 rw [hnm, hnu] at hlg
 rw [hnm] at CNm
 rw [hnu] at CNu
 rw [hsp] at CSp
 rw [hob] at COp
 obtain ⟨bd, hbd⟩ : ∃ b, (!p.body.isEmpty || (!lg && !sp)) = b := ⟨_, rfl⟩
 rw [hbd] at hr
 have HR := Lib.hid hr
 have HLG := Lib.hid hlg
 have HBD := Lib.hid hbd
 have HPC := Lib.hid hpc
 have HLW := Lib.hid hlw0
 have HLB := Lib.hid hlb0
 have EW := Lib.hid (nil_beq hlw0)
 have EB := Lib.hid (nil_lt hlb0)
 have BX := Lib.hid (Bx.start w 67 #[.int .i64 m] 44 #[.int .i64 p.kind, .bool p.quoted, .string p.text, .string p.op, .slice a1 lw c1, .slice a2 lb c2])
 clear hnm hnu hsp hob hr hlg hw hb hwr hpc hbd hlw0 hlb0
 rcases Nat.eq_zero_or_pos lb with h0 | h0
 · subst h0
   have he : p.body.isEmpty = true := nil_of_len HLB.out rfl
   rw [he] at HBD
   clear EB HLB he hlb
   go_enter Tryz.func109, Tryz.ntmps109
   go_upto_region 1 with fail
   go_cut [5] (fun s5 W => s5 = .bool lg ∧ Bx w W 67 #[.int .i64 m] 44 #[.int .i64 p.kind, .bool p.quoted, .string p.text, .string p.op, .slice a1 lw c1, .slice a2 0 c2])
   case first =>
    go_wp2_with fail
    refine (CNm.out _ bg).mono ?_
    rintro e w1 ⟨rfl, hb0⟩
    obtain ⟨hcw1, hfw1⟩ := bcell hb0
    have hzw1 := hb0.size
    try simp only [World.size_alloc, World.size_setCell, World.size_drew, size_drewN] at hzw1
    have hBw1 : Below w.heap.size w w1 := since hb0 bg
    have BXw1 := Lib.hid (Bx.later BX.out (since hb0 bg))
    clear hb0
    cases nm with
    | true =>
      go_wp2_with fail
      go_meet
      exact ⟨by rw [← HLG.out]; rfl, BXw1.out⟩
    | false =>
      go_wp2_with fail
      refine (CNu.out _ bg).mono ?_
      rintro e w2 ⟨rfl, hb0⟩
      obtain ⟨hcw2, hfw2⟩ := bcell hb0
      have hzw2 := hb0.size
      try simp only [World.size_alloc, World.size_setCell, World.size_drew, size_drewN] at hzw2
      have hBw2 : Below w.heap.size w w2 := since hb0 bg
      have BXw2 := Lib.hid (Bx.later BXw1.out (since hb0 bg))
      clear hb0
      go_wp2_with fail
      go_meet
      exact ⟨by rw [← HLG.out]; rfl, BXw2.out⟩
   case rest =>
    obtain ⟨rfl, bx1⟩ := hcut
    have BX1 := Lib.hid bx1
    clear bx1
    have K0BX1 := Lib.hid BX1.out.b0
    have K1BX1 := Lib.hid BX1.out.b1
    have hBBX1 := BX1.out.hb
    obtain ⟨b0, bf, bl⟩ := K0BX1.out.box1
    obtain ⟨p0, p1, p2, p3, p4, p5, pl⟩ := K1BX1.out.box6
    go_upto_region 2 with fail
    go_cut [14] (fun s14 W => s14 = .bool bd ∧ Bx w W 67 #[.int .i64 m] 44 #[.int .i64 p.kind, .bool p.quoted, .string p.text, .string p.op, .slice a1 lw c1, .slice a2 0 c2])
    case first =>
     cases lg with
     | true =>
       have HE : Hid (bd = false) := Lib.hid (by rw [← HBD.out]; rfl)
       go_wp2_with fail
       go_meet
       exact ⟨by rw [HE.out], BX1.out⟩
     | false =>
       have HE : Hid (bd = !sp) := Lib.hid (by rw [← HBD.out]; rfl)
       go_wp2_with fail
       refine (CSp.out _).mono ?_
       rintro e w1 ⟨rfl, rfl⟩
       go_wp2_with fail
       go_meet
       exact ⟨by rw [HE.out], BX1.out⟩
    case rest =>
     obtain ⟨rfl, bx2⟩ := hcut
     clear b0 bf bl p0 p1 p2 p3 p4 p5 pl
     have BX2 := Lib.hid bx2
     clear bx2
     have K0BX2 := Lib.hid BX2.out.b0
     have K1BX2 := Lib.hid BX2.out.b1
     have hBBX2 := BX2.out.hb
     obtain ⟨b0, bf, bl⟩ := K0BX2.out.box1
     obtain ⟨p0, p1, p2, p3, p4, p5, pl⟩ := K1BX2.out.box6
     cases bd with
     | true =>
       have HE : Hid (r = false) := Lib.hid (by rw [← HR.out]; rfl)
       go_wp2_with fail
       go_ret
       exact ⟨ret_bool HE.out.symm, bg⟩
     | false =>
       cases hoe : (L p.op).isEmpty with
       | true =>
         have e1 : p.op.toList.isEmpty = true := by rw [isEmpty_L]; exact hoe
         have HE : Hid (r = p.word.isEmpty) := Lib.hid (by rw [← HR.out, hoe]; rfl)
         have e2 := EW.out
         cases hwe : p.word.isEmpty with
         | true =>
           rw [hwe] at e2 HE
           clear hoe hwe
           go_wp2_with fail
           go_ret
           exact ⟨ret_bool HE.out.symm, bg⟩
         | false =>
           rw [hwe] at e2 HE
           clear hoe hwe
           go_wp2_with fail
           go_ret
           exact ⟨ret_bool HE.out.symm, bg⟩
       | false =>
         have e1 : p.op.toList.isEmpty = false := by rw [isEmpty_L]; exact hoe
         cases hol : (L p.op == [108, 101, 110]) with
         | true =>
           have e3 : (p.op.toList == [108, 101, 110]) = true := by rw [toList_L]; exact hol
           have HE : Hid (r = (lg && p.word.isEmpty)) := Lib.hid (by rw [← HR.out, hoe, hol]; rfl)
           have e2 := EW.out
           cases lg with
           | false =>
             clear hoe hol
             go_wp2_with fail
             go_ret
             exact ⟨ret_bool (by rw [HE.out]; rfl), bg⟩
           | true =>
             cases hwe : p.word.isEmpty with
             | true =>
               rw [hwe] at e2 HE
               clear hoe hwe hol
               go_wp2_with fail
               go_ret
               exact ⟨ret_bool HE.out.symm, bg⟩
             | false =>
               rw [hwe] at e2 HE
               clear hoe hwe hol
               go_wp2_with fail
               go_ret
               exact ⟨ret_bool HE.out.symm, bg⟩
         | false =>
           have e3 : (p.op.toList == [108, 101, 110]) = false := by rw [toList_L]; exact hol
           have HE : Hid (r = (!pc && (ob && (!(L p.text == [35]) && wr)))) := Lib.hid (by rw [← HR.out, hoe, hol]; rfl)
           clear hoe hol
           cases h37 : (L p.op == [37]) with
           | false =>
             have e4 : (p.op.toList == [37]) = false := by rw [toList_L]; exact h37
             have HE3 : Hid (r = (ob && (!(L p.text == [35]) && wr))) := Lib.hid (by rw [HE.out, ← HPC.out, show pctB p = false from by rw [pctB, h37]; rfl]; rfl)
             clear h37
             go_wp2_with fail
             skip
             refine (COp.out _).mono ?_
             rintro e w1 ⟨rfl, rfl⟩
             cases ob with
             | false =>
               go_wp2_with fail
               go_ret
               exact ⟨ret_bool HE3.out.symm, bg⟩
             | true =>
               cases h35 : (L p.text == [35]) with
               | true =>
                 have e5 : (p.text.toList == [35]) = true := by rw [toList_L]; exact h35
                 rw [h35] at HE3
                 clear h35
                 go_wp2_with fail
                 go_ret
                 exact ⟨ret_bool HE3.out.symm, bg⟩
               | false =>
                 have e5 : (p.text.toList == [35]) = false := by rw [toList_L]; exact h35
                 rw [h35] at HE3
                 clear h35
                 go_wp2_with fail
                 refine (CW.out _ bg).mono ?_
                 rintro e w3 ⟨rfl, hb0⟩
                 obtain ⟨hcw3, hfw3⟩ := bcell hb0
                 have hzw3 := hb0.size
                 try simp only [World.size_alloc, World.size_setCell, World.size_drew, size_drewN] at hzw3
                 have hBw3 : Below w.heap.size w w3 := since hb0 bg
                 have BXw3 := Lib.hid (Bx.later BX2.out (since hb0 bg))
                 clear hb0
                 go_wp2_with fail
                 go_ret
                 exact ⟨ret_bool HE3.out.symm, bg⟩
           | true =>
             have e4 : (p.op.toList == [37]) = true := by rw [toList_L]; exact h37
             rcases Nat.eq_zero_or_pos lw with h0 | h0
             · subst h0
               have hwn : p.word = [] := List.length_eq_zero_iff.1 HLW.out
               have HE3 : Hid (r = (ob && (!(L p.text == [35]) && wr))) := Lib.hid (by rw [HE.out, ← HPC.out, show pctB p = false from by rw [pctB, h37, hwn]; rfl]; rfl)
               clear h37 hwn
               go_wp2_with fail
               skip
               refine (COp.out _).mono ?_
               rintro e w1 ⟨rfl, rfl⟩
               cases ob with
               | false =>
                 go_wp2_with fail
                 go_ret
                 exact ⟨ret_bool HE3.out.symm, bg⟩
               | true =>
                 cases h35 : (L p.text == [35]) with
                 | true =>
                   have e5 : (p.text.toList == [35]) = true := by rw [toList_L]; exact h35
                   rw [h35] at HE3
                   clear h35
                   go_wp2_with fail
                   go_ret
                   exact ⟨ret_bool HE3.out.symm, bg⟩
                 | false =>
                   have e5 : (p.text.toList == [35]) = false := by rw [toList_L]; exact h35
                   rw [h35] at HE3
                   clear h35
                   go_wp2_with fail
                   refine (CW.out _ bg).mono ?_
                   rintro e w3 ⟨rfl, hb0⟩
                   obtain ⟨hcw3, hfw3⟩ := bcell hb0
                   have hzw3 := hb0.size
                   try simp only [World.size_alloc, World.size_setCell, World.size_drew, size_drewN] at hzw3
                   have hBw3 : Below w.heap.size w w3 := since hb0 bg
                   have BXw3 := Lib.hid (Bx.later BX2.out (since hb0 bg))
                   clear hb0
                   go_wp2_with fail
                   go_ret
                   exact ⟨ret_bool HE3.out.symm, bg⟩
             · obtain ⟨x, b, o, ⟨xr, hx⟩, hxt, hi, hbB, g0, g1, g2⟩ := HW.out.first (by rw [HLW.out]; exact h0)
               have hbB2 := Nat.lt_of_lt_of_le hbB hBBX2.size
               have hp0 : pctB p = (x.kind == 1 && !x.quoted && List.isPrefixOf [37] (L x.text)) := by rw [pctB, h37, hx]; rfl
               have HP0 := Lib.hid hp0
               rw [← hBBX2.cell (p := ⟨b, o, none⟩) hbB] at g0
               rw [← hBBX2.cell (p := ⟨b, o + 1, none⟩) hbB] at g1
               rw [← hBBX2.cell (p := ⟨b, o + 2, none⟩) hbB] at g2
               obtain ⟨xk, hxk⟩ : ∃ k, x.kind = k := ⟨_, rfl⟩
               obtain ⟨xq, hxq⟩ : ∃ k, x.quoted = k := ⟨_, rfl⟩
               obtain ⟨xt, hxt2⟩ : ∃ k, x.text = k := ⟨_, rfl⟩
               rw [hxk] at g0 HP0
               rw [hxq] at g1 HP0
               rw [hxt2] at g2 HP0
               have hlt : decide ((0 : Int) < (lw : Int)) = true := by simp; omega
               clear h37 hp0 hx hxk hxq hxt2 hxt
               cases hk1 : (xk == 1) with
               | false =>
                 rw [hk1, Bool.false_and, Bool.false_and] at HP0
                 have HE3 : Hid (r = (ob && (!(L p.text == [35]) && wr))) := Lib.hid (by rw [HE.out, ← HPC.out, show pctB p = false from HP0.out]; rfl)
                 skip
                 go_wp2_with fail
                 skip
                 refine (COp.out _).mono ?_
                 rintro e w1 ⟨rfl, rfl⟩
                 cases ob with
                 | false =>
                   go_wp2_with fail
                   go_ret
                   exact ⟨ret_bool HE3.out.symm, bg⟩
                 | true =>
                   cases h35 : (L p.text == [35]) with
                   | true =>
                     have e5 : (p.text.toList == [35]) = true := by rw [toList_L]; exact h35
                     rw [h35] at HE3
                     clear h35
                     go_wp2_with fail
                     go_ret
                     exact ⟨ret_bool HE3.out.symm, bg⟩
                   | false =>
                     have e5 : (p.text.toList == [35]) = false := by rw [toList_L]; exact h35
                     rw [h35] at HE3
                     clear h35
                     go_wp2_with fail
                     refine (CW.out _ bg).mono ?_
                     rintro e w3 ⟨rfl, hb0⟩
                     obtain ⟨hcw3, hfw3⟩ := bcell hb0
                     have hzw3 := hb0.size
                     try simp only [World.size_alloc, World.size_setCell, World.size_drew, size_drewN] at hzw3
                     have hBw3 : Below w.heap.size w w3 := since hb0 bg
                     have BXw3 := Lib.hid (Bx.later BX2.out (since hb0 bg))
                     clear hb0
                     go_wp2_with fail
                     go_ret
                     exact ⟨ret_bool HE3.out.symm, bg⟩
               | true =>
                 rw [hk1, Bool.true_and] at HP0
                 cases xq with
                 | true =>
                   rw [Bool.not_true, Bool.false_and] at HP0
                   have HE3 : Hid (r = (ob && (!(L p.text == [35]) && wr))) := Lib.hid (by rw [HE.out, ← HPC.out, show pctB p = false from HP0.out]; rfl)
                   skip
                   go_wp2_with fail
                   skip
                   refine (COp.out _).mono ?_
                   rintro e w1 ⟨rfl, rfl⟩
                   cases ob with
                   | false =>
                     go_wp2_with fail
                     go_ret
                     exact ⟨ret_bool HE3.out.symm, bg⟩
                   | true =>
                     cases h35 : (L p.text == [35]) with
                     | true =>
                       have e5 : (p.text.toList == [35]) = true := by rw [toList_L]; exact h35
                       rw [h35] at HE3
                       clear h35
                       go_wp2_with fail
                       go_ret
                       exact ⟨ret_bool HE3.out.symm, bg⟩
                     | false =>
                       have e5 : (p.text.toList == [35]) = false := by rw [toList_L]; exact h35
                       rw [h35] at HE3
                       clear h35
                       go_wp2_with fail
                       refine (CW.out _ bg).mono ?_
                       rintro e w3 ⟨rfl, hb0⟩
                       obtain ⟨hcw3, hfw3⟩ := bcell hb0
                       have hzw3 := hb0.size
                       try simp only [World.size_alloc, World.size_setCell, World.size_drew, size_drewN] at hzw3
                       have hBw3 : Below w.heap.size w w3 := since hb0 bg
                       have BXw3 := Lib.hid (Bx.later BX2.out (since hb0 bg))
                       clear hb0
                       go_wp2_with fail
                       go_ret
                       exact ⟨ret_bool HE3.out.symm, bg⟩
                 | false =>
                   rw [Bool.not_false, Bool.true_and] at HP0
                   have CH := Lib.hid (CHP.out xt)
                   obtain ⟨hh, hhd⟩ : ∃ h, List.isPrefixOf [37] (L xt) = h := ⟨_, rfl⟩
                   rw [hhd] at HP0 CH
                   clear hhd
                   cases hh with
                   | true =>
                     have HE3 : Hid (r = false) := Lib.hid (by rw [HE.out, ← HPC.out, HP0.out]; rfl)
                     go_wp2_with fail
                     refine (CH.out _).mono ?_
                     rintro e w1 ⟨rfl, rfl⟩
                     go_wp2_with fail
                     go_ret
                     exact ⟨ret_bool HE3.out.symm, bg⟩
                   | false =>
                     have HE3 : Hid (r = (ob && (!(L p.text == [35]) && wr))) := Lib.hid (by rw [HE.out, ← HPC.out, HP0.out]; rfl)
                     go_wp2_with fail
                     refine (CH.out _).mono ?_
                     rintro e w1 ⟨rfl, rfl⟩
                     have HE3 : Hid (r = (ob && (!(L p.text == [35]) && wr))) := Lib.hid (by rw [HE.out, ← HPC.out, show pctB p = false from HP0.out]; rfl)
                     clear HE3
                     go_wp2_with fail
                     skip
                     refine (COp.out _).mono ?_
                     rintro e w1 ⟨rfl, rfl⟩
                     cases ob with
                     | false =>
                       go_wp2_with fail
                       go_ret
                       exact ⟨ret_bool HE3.out.symm, bg⟩
                     | true =>
                       cases h35 : (L p.text == [35]) with
                       | true =>
                         have e5 : (p.text.toList == [35]) = true := by rw [toList_L]; exact h35
                         rw [h35] at HE3
                         clear h35
                         go_wp2_with fail
                         go_ret
                         exact ⟨ret_bool HE3.out.symm, bg⟩
                       | false =>
                         have e5 : (p.text.toList == [35]) = false := by rw [toList_L]; exact h35
                         rw [h35] at HE3
                         clear h35
                         go_wp2_with fail
                         refine (CW.out _ bg).mono ?_
                         rintro e w3 ⟨rfl, hb0⟩
                         obtain ⟨hcw3, hfw3⟩ := bcell hb0
                         have hzw3 := hb0.size
                         try simp only [World.size_alloc, World.size_setCell, World.size_drew, size_drewN] at hzw3
                         have hBw3 : Below w.heap.size w w3 := since hb0 bg
                         have BXw3 := Lib.hid (Bx.later BX2.out (since hb0 bg))
                         clear hb0
                         go_wp2_with fail
                         go_ret
                         exact ⟨ret_bool HE3.out.symm, bg⟩
 · have HE : Hid (r = false) := Lib.hid (by
    have : p.body.isEmpty = false := not_nil_of_len HLB.out h0
    rw [← HR.out, ← HBD.out, this]; rfl)
   have e1 : decide ((0 : Int) < (lb : Int)) = true := by simp; omega
   clear EB HLB
   go_enter Tryz.func109, Tryz.ntmps109
   go_wp2_with fail
   refine (CNm.out _ bg).mono ?_
   rintro e w1 ⟨rfl, hb0⟩
   obtain ⟨hcw1, hfw1⟩ := bcell hb0
   have hzw1 := hb0.size
   try simp only [World.size_alloc, World.size_setCell, World.size_drew, size_drewN] at hzw1
   have hBw1 : Below w.heap.size w w1 := since hb0 bg
   have BXw1 := Lib.hid (Bx.later BX.out (since hb0 bg))
   clear hb0
   cases nm with
   | true =>
     go_wp2_with fail
     go_ret
     exact ⟨ret_bool HE.out.symm, bg⟩
   | false =>
     go_wp2_with fail
     refine (CNu.out _ bg).mono ?_
     rintro e w2 ⟨rfl, hb0⟩
     obtain ⟨hcw2, hfw2⟩ := bcell hb0
     have hzw2 := hb0.size
     try simp only [World.size_alloc, World.size_setCell, World.size_drew, size_drewN] at hzw2
     have hBw2 : Below w.heap.size w w2 := since hb0 bg
     have BXw2 := Lib.hid (Bx.later BXw1.out (since hb0 bg))
     clear hb0
     have K0BXw2 := Lib.hid BXw2.out.b0
     have K1BXw2 := Lib.hid BXw2.out.b1
     have hBBXw2 := BXw2.out.hb
     obtain ⟨b0, bf, bl⟩ := K0BXw2.out.box1
     obtain ⟨p0, p1, p2, p3, p4, p5, pl⟩ := K1BXw2.out.box6
     cases nu with
     | true =>
       go_wp2_with fail
       go_ret
       exact ⟨ret_bool HE.out.symm, bg⟩
     | false =>
       go_wp2_with fail
       go_ret
       exact ⟨ret_bool HE.out.symm, bg⟩
end Go.Proofs.YtnackmnoldkihaaGreatDoor
