/-
  The document's side: a part.
-/
import Derived.Test.YtnackmnoldkihaaGreatDoorW26
import Derived.Test.YtnackmnoldkihaaGreatDoorW8
set_option linter.unusedVariables false
set_option linter.unusedSimpArgs false
namespace Go.Proofs.YtnackmnoldkihaaGreatDoor
open Go.RowKit

/-- A call's one box. -/
structure Bk (w W : World) (t : TypeId) (c : Array Value) : Prop where
 b : Blk W w.heap.size t c
 hb : Below w.heap.size w W
theorem Bk.start (w : World) (t : TypeId) (c : Array Value) : Bk w (w.alloc (.cells c t)) t c := ⟨Blk.new _ _ _, bg⟩
theorem Bk.later {w W W' : World} {t : TypeId} {c : Array Value} (h : Bk w W t c) (hb : Below W.heap.size W W') : Bk w W' t c := ⟨h.b.below hb h.b.lt, h.hb.trans (hb.mono h.hb.size)⟩
theorem Bk.from {w W W' : World} {t : TypeId} {c : Array Value} (h : Bk w W t c) (hb : Below w.heap.size w W') (hk : ∀ o, W'.heap[w.heap.size]? = o ↔ W.heap[w.heap.size]? = o) : Bk w W' t c := ⟨(hk _).2 h.b, hb⟩

/-- Word and List of the document, at a level. -/
def RWordAt (level deep : Int) (wd : List Pt → Bool) : Prop := ∀ (W : World) (l : List Pt) (v : Value) (d : Nat) (some : Bool), PtsIn W W.heap.size d l v →
 Calls Tryz.prog 55 #[v, .int .i64 level, .int .i64 deep, .bool some] W fun e w' => e = .returned (.bool (wd l && (!some || !l.isEmpty))) ∧ Below W.heap.size W w'
def RListAt (level deep : Int) (ls : List Nd → Bool) : Prop := ∀ (W : World) (l : List Nd) (v : Value) (d : Nat) (none : Bool), NdsIn W W.heap.size d l v →
 Calls Tryz.prog 11 #[v, .int .i64 level, .int .i64 deep, .bool none] W fun e w' => e = .returned (.bool (ls l && (none || !l.isEmpty))) ∧ Below W.heap.size W w'
theorem RWordAt.reads {level deep : Int} {wd : List Pt → Bool} (h : RWordAt level deep wd) {w : World} {l : List Pt} {v : Value} {d : Nat} (hl : PtsIn w w.heap.size d l v) (some : Bool) : Reads w 55 #[v, .int .i64 level, .int .i64 deep, .bool some] (.bool (wd l && (!some || !l.isEmpty))) :=
 fun W hb => h W l v d some (hl.later hb)
theorem RListAt.reads {level deep : Int} {ls : List Nd → Bool} (h : RListAt level deep ls) {w : World} {l : List Nd} {v : Value} {d : Nat} (hl : NdsIn w w.heap.size d l v) (none : Bool) : Reads w 11 #[v, .int .i64 level, .int .i64 deep, .bool none] (.bool (ls l && (none || !l.isEmpty))) :=
 fun W hb => h W l v d none (hl.later hb)
theorem PtsIn.first14 {w : World} {B d : Nat} {l : List Pt} {v : Value} (h : PtsIn w B d l v) (h0 : 0 < l.length) : ∃ x b o, (∃ r, l = x :: r) ∧ x.text.size ≤ 1048576 ∧ (∀ w' : World, (Instr.indexAt 41 v (.int .i64 0)).run Tryz.prog w' = .ok (.pointer (some ⟨b, o, none⟩)) w') ∧ b < B ∧
 w.cell? ⟨b, o, none⟩ = some (.int .i64 x.kind) ∧ w.cell? ⟨b, o + 1, none⟩ = some (.bool x.quoted) ∧ w.cell? ⟨b, o + 2, none⟩ = some (.string x.text) := by
 obtain ⟨d, h⟩ := h.up
 cases l with
 | nil => simp at h0
 | cons x r =>
   obtain ⟨b, o, c, hi, hb, hc, hC, _⟩ := h.at 41 72 Tryz.underlying41 (by kernel_rfl) (k := 0) (x := x) rfl
   obtain ⟨h1, h2, wv, bv, rfl, _⟩ := hC
   exact ⟨x, b, o, ⟨r, rfl⟩, h1, fun w' => hi w', hb, hc 0 _ rfl, hc 1 _ rfl, hc 2 _ rfl⟩

set_option maxHeartbeats 1000000 in
set_option maxRecDepth 100000 in
theorem rpart_no (level deep : Int) (h : deep < level) (p : Pt) (w : World) (d : Nat) (c : List Value) (hp : PtC w w.heap.size d p c) :
 Calls Tryz.prog 71 #[.agg c.toArray, .int .i64 level, .int .i64 deep] w fun e w' => e = .returned (.bool false) ∧ Below w.heap.size w w' := by
 obtain ⟨a1, c1, a2, c2, rfl, _⟩ := hp.open
 have hg : decide (deep < level) = true := by simp [h]
 clear hp h
 go_enter Tryz.func71, Tryz.ntmps71
 go_wp2_with fail
 go_ret
 exact ⟨ret_bool rfl, bg⟩

set_option maxHeartbeats 4000000 in
set_option maxRecDepth 100000 in
theorem rpart_yes (wd : List Pt → Bool) (ls : List Nd → Bool) (level deep : Int) (hlv : level ≤ deep) (hl0 : 0 ≤ level) (hl1 : level ≤ 2000) (hwd : RWordAt (level + 1) deep wd) (hls : RListAt (level + 1) deep ls) (p : Pt) (w : World) (d : Nat) (c : List Value) (hp : PtC w w.heap.size d p c) :
 Calls Tryz.prog 71 #[.agg c.toArray, .int .i64 level, .int .i64 deep] w fun e w' => e = .returned (.bool (partB wd ls none p)) ∧ Below w.heap.size w w' := by
 have CLit : Hid (∀ W, Below w.heap.size w W → Calls Tryz.prog 99 #[.agg c.toArray] W fun e w' => e = .returned (.bool (litB none p)) ∧ Below W.heap.size W w') := Lib.hid fun W hW => rlit_any p W d c (hp.later hW)
 obtain ⟨a1, c1, a2, c2, rfl, ⟨h1, h2⟩, ⟨hlw, hlb⟩, hw, hb⟩ := hp.open
 obtain ⟨lw, hlw0⟩ : ∃ n, p.word.length = n := ⟨_, rfl⟩
 obtain ⟨lb, hlb0⟩ : ∃ n, p.body.length = n := ⟨_, rfl⟩
 rw [hlw0] at hlw hw CLit ⊢
 rw [hlb0] at hlb hb CLit ⊢
 have CW := Lib.hid (hwd.reads hw false)
 have CLs := Lib.hid (hls.reads hb true)
 have HW := Lib.hid hw
 have CNm : Hid (∀ W, Below w.heap.size w W → Calls Tryz.prog 22 #[.string p.text] W fun e w' => e = .returned (.bool (nameL (L p.text))) ∧ Below W.heap.size W w') := Lib.hid fun W _ => (rname_any p.text W (by unfold maxLen; omega)).mono fun e w' h => ⟨h.1, by first | exact h.2 | (rw [h.2]; exact Below.refl _ _) | (rw [← h.2]; exact Below.refl _ _)⟩
 have CNu : Hid (∀ W, Below w.heap.size w W → Calls Tryz.prog 24 #[.string p.text] W fun e w' => e = .returned (.bool (numB (L p.text))) ∧ Below W.heap.size W w') := Lib.hid fun W _ => (rnumber_any p.text W (by unfold maxLen; omega)).mono fun e w' h => ⟨h.1, by first | exact h.2 | (rw [h.2]; exact Below.refl _ _) | (rw [← h.2]; exact Below.refl _ _)⟩
 have CSp : Hid (∀ W, Below w.heap.size w W → Calls Tryz.prog 26 #[.string p.text] W fun e w' => e = .returned (.bool (specB (L p.text))) ∧ Below W.heap.size W w') := Lib.hid fun W _ => (rspecial_any p.text W).mono fun e w' h => ⟨h.1, by first | exact h.2 | (rw [h.2]; exact Below.refl _ _) | (rw [← h.2]; exact Below.refl _ _)⟩
 have CSm : Hid (∀ W, Below w.heap.size w W → Calls Tryz.prog 32 #[.string p.text] W fun e w' => e = .returned (.bool (sumB (L p.text))) ∧ Below W.heap.size W w') := Lib.hid fun W _ => (rsum_any p.text W (by unfold maxLen; omega)).mono fun e w' h => ⟨h.1, by first | exact h.2 | (rw [h.2]; exact Below.refl _ _) | (rw [← h.2]; exact Below.refl _ _)⟩
 have COp : Hid (∀ W, Below w.heap.size w W → Calls Tryz.prog 30 #[.string p.op] W fun e w' => e = .returned (.bool (oneB opWs (L p.op))) ∧ Below W.heap.size W w') := Lib.hid fun W _ => rop_any p.op W
 obtain ⟨r, hr⟩ : ∃ r, partB wd ls none p = r := ⟨_, rfl⟩
 rw [hr]
 have HR0 : Hid (r = bif p.kind == 1 then litB none p else bif p.kind == 2 then paramB wd p else bif p.kind == 3 then ((L p.text).isEmpty && ((L p.op).isEmpty && (p.word.isEmpty && ls p.body))) else bif p.kind == 4 then (sumB (L p.text) && ((L p.op).isEmpty && (p.word.isEmpty && p.body.isEmpty))) else false) := Lib.hid (by rw [← hr, partB, hollowB, Bool.and_false, Bool.not_false, Bool.true_and])
 have HRP : Hid (paramB wd p = (!(!p.body.isEmpty || (!(nameL (L p.text) || numB (L p.text)) && !specB (L p.text))) && (bif (L p.op).isEmpty then p.word.isEmpty else bif L p.op == [108, 101, 110] then ((nameL (L p.text) || numB (L p.text)) && p.word.isEmpty) else (!pctB p && (oneB opWs (L p.op) && (!(L p.text == [35]) && wd p.word)))))) := Lib.hid rfl
 have hg : decide (deep < level) = false := by simp [hlv]
 have HLW := Lib.hid hlw0
 have HLB := Lib.hid hlb0
 have EW := Lib.hid (nil_beq hlw0)
 have EB := Lib.hid (nil_beq hlb0)
 have EB2 := Lib.hid (nil_lt hlb0)
 have BK := Lib.hid (Bk.start w 72 #[.int .i64 p.kind, .bool p.quoted, .string p.text, .string p.op, .slice a1 lw c1, .slice a2 lb c2])
 clear hp hr hw hb hlw0 hlb0 hwd hls hlv
 obtain ⟨xk, hxk⟩ : ∃ k, p.kind = k := ⟨_, rfl⟩
 rw [hxk] at HR0 BK CLit ⊢
 clear hxk
 cases hk1 : (xk == 1) with
 | true =>
   have HE : Hid (r = litB none p) := Lib.hid (by rw [HR0.out, hk1]; rfl)
   go_enter Tryz.func71, Tryz.ntmps71
   go_wp2_with fail
   refine (CLit.out _ bg).mono ?_
   rintro e w1 ⟨rfl, hb0⟩
   have hBw1 : Below w.heap.size w w1 := since hb0 bg
   have BKw1 := Lib.hid (Bk.later BK.out (since hb0 bg))
   clear hb0
   go_wp2_with fail
   go_ret
   exact ⟨ret_bool HE.out.symm, bg⟩
 | false =>
   cases hk2 : (xk == 2) with
   | false =>
     cases hk3 : (xk == 3) with
     | true =>
       have HE : Hid (r = ((L p.text).isEmpty && ((L p.op).isEmpty && (p.word.isEmpty && ls p.body)))) := Lib.hid (by rw [HR0.out, hk1, hk2, hk3]; rfl)
       obtain ⟨lr, hlr⟩ : ∃ b, (ls p.body && (true || !p.body.isEmpty)) = b := ⟨_, rfl⟩
       rw [hlr] at CLs
       rw [Bool.true_or, Bool.and_true] at hlr
       rw [hlr] at HE
       clear hlr
       cases ht : (L p.text).isEmpty with
       | false =>
         have htt : p.text.toList.isEmpty = false := by rw [isEmpty_L]; exact ht
         rw [ht] at HE
         clear ht
         go_enter Tryz.func71, Tryz.ntmps71
         go_wp2_with fail
         go_ret
         exact ⟨ret_bool (by rw [HE.out]; rfl), bg⟩
       | true =>
         have htt : p.text.toList.isEmpty = true := by rw [isEmpty_L]; exact ht
         rw [ht] at HE
         clear ht
         cases ho : (L p.op).isEmpty with
         | false =>
           have hot : p.op.toList.isEmpty = false := by rw [isEmpty_L]; exact ho
           rw [ho] at HE
           clear ho
           go_enter Tryz.func71, Tryz.ntmps71
           go_wp2_with fail
           go_ret
           exact ⟨ret_bool (by rw [HE.out]; rfl), bg⟩
         | true =>
           have hot : p.op.toList.isEmpty = true := by rw [isEmpty_L]; exact ho
           rw [ho] at HE
           clear ho
           have e2 := EW.out
           cases hwe : p.word.isEmpty with
           | false =>
             rw [hwe] at e2 HE
             clear hwe
             go_enter Tryz.func71, Tryz.ntmps71
             go_wp2_with fail
             go_ret
             exact ⟨ret_bool (by rw [HE.out]; rfl), bg⟩
           | true =>
             rw [hwe] at e2 HE
             clear hwe
             go_enter Tryz.func71, Tryz.ntmps71
             go_wp2_with fail
             refine (CLs.out _ bg).mono ?_
             rintro e w1 ⟨rfl, hb0⟩
             have hBw1 : Below w.heap.size w w1 := since hb0 bg
             have BKw1 := Lib.hid (Bk.later BK.out (since hb0 bg))
             clear hb0
             go_wp2_with fail
             go_ret
             exact ⟨ret_bool (by rw [HE.out]; rfl), bg⟩
     | false =>
       cases hk4 : (xk == 4) with
       | true =>
         have HE : Hid (r = (sumB (L p.text) && ((L p.op).isEmpty && (p.word.isEmpty && p.body.isEmpty)))) := Lib.hid (by rw [HR0.out, hk1, hk2, hk3, hk4]; rfl)
         obtain ⟨sm, hsm⟩ : ∃ b, sumB (L p.text) = b := ⟨_, rfl⟩
         rw [hsm] at CSm HE
         clear hsm
         have e2 := EW.out
         have e3 := EB.out
         cases ho : (L p.op).isEmpty
         all_goals cases hwe : p.word.isEmpty
         all_goals cases hbe : p.body.isEmpty
         all_goals
          have hot := (isEmpty_L p.op).trans ho
          rw [ho, hwe, hbe] at HE
          rw [hwe] at e2
          rw [hbe] at e3
          clear ho hwe hbe
          cases sm
          all_goals
           go_enter Tryz.func71, Tryz.ntmps71
           go_wp2_with fail
           refine (CSm.out _ bg).mono ?_
           rintro e w1 ⟨rfl, hb0⟩
           have hBw1 : Below w.heap.size w w1 := since hb0 bg
           have BKw1 := Lib.hid (Bk.later BK.out (since hb0 bg))
           clear hb0
           have K1BKw1 := Lib.hid BKw1.out.b
           have hBBKw1 := BKw1.out.hb
           obtain ⟨p0, p1, p2, p3, p4, p5, pl⟩ := K1BKw1.out.box6
           go_wp2_with fail
           go_ret
           exact ⟨ret_bool (by rw [HE.out]; rfl), bg⟩
       | false =>
         have HE : Hid (r = false) := Lib.hid (by rw [HR0.out, hk1, hk2, hk3, hk4]; rfl)
         go_enter Tryz.func71, Tryz.ntmps71
         go_wp2_with fail
         go_ret
         exact ⟨ret_bool HE.out.symm, bg⟩
   | true =>
     have HE0 : Hid (r = paramB wd p) := Lib.hid (by rw [HR0.out, hk1, hk2]; rfl)
     have hr := HE0.out.trans HRP.out
     clear HE0 HRP HR0 CLit CLs CSm
     obtain ⟨lg, hlg⟩ : ∃ b, (nameL (L p.text) || numB (L p.text)) = b := ⟨_, rfl⟩
     obtain ⟨nm, hnm⟩ : ∃ b, nameL (L p.text) = b := ⟨_, rfl⟩
     obtain ⟨nu, hnu⟩ : ∃ b, numB (L p.text) = b := ⟨_, rfl⟩
     obtain ⟨sp, hsp⟩ : ∃ b, specB (L p.text) = b := ⟨_, rfl⟩
     obtain ⟨ob, hob⟩ : ∃ b, oneB opWs (L p.op) = b := ⟨_, rfl⟩
     obtain ⟨wr, hwr⟩ : ∃ b, (wd p.word && (!false || !p.word.isEmpty)) = b := ⟨_, rfl⟩
     obtain ⟨pc, hpc⟩ : ∃ b, pctB p = b := ⟨_, rfl⟩
     rw [hwr] at CW
     rw [show (wd p.word && (!false || !p.word.isEmpty)) = wd p.word by simp] at hwr
     rw [hlg, hsp, hob, hpc, hwr] at hr
     rw [hnm, hnu] at hlg
     rw [hnm] at CNm
     rw [hnu] at CNu
     rw [hsp] at CSp
     rw [hob] at COp
     obtain ⟨bd, hbd⟩ : ∃ b, (!p.body.isEmpty || (!lg && !sp)) = b := ⟨_, rfl⟩
     rw [hbd] at hr
     have HR := Lib.hid hr
     have HLG := Lib.hid hlg
     have HBD := Lib.hid hbd
     have HPC := Lib.hid hpc
     clear hnm hnu hsp hob hr hlg hwr hpc hbd EB
     go_enter Tryz.func71, Tryz.ntmps71
     go_upto_region 7 with fail
     go_cut [7] (fun s7 W => s7 = .bool lg ∧ Bk w W 72 #[.int .i64 xk, .bool p.quoted, .string p.text, .string p.op, .slice a1 lw c1, .slice a2 lb c2])
     case first =>
      go_wp2_with fail
      refine (CNm.out _ bg).mono ?_
      rintro e w1 ⟨rfl, hb0⟩
      have hBw1 : Below w.heap.size w w1 := since hb0 bg
      have BKw1 := Lib.hid (Bk.later BK.out (since hb0 bg))
      clear hb0
      have K1BKw1 := Lib.hid BKw1.out.b
      have hBBKw1 := BKw1.out.hb
      obtain ⟨p0, p1, p2, p3, p4, p5, pl⟩ := K1BKw1.out.box6
      cases nm with
      | true =>
        go_wp2_with fail
        go_meet
        exact ⟨by rw [← HLG.out]; rfl, BKw1.out⟩
      | false =>
        go_wp2_with fail
        refine (CNu.out _ bg).mono ?_
        rintro e w2 ⟨rfl, hb0⟩
        have hBw2 : Below w.heap.size w w2 := since hb0 bg
        have BKw2 := Lib.hid (Bk.later BKw1.out (since hb0 bg))
        clear hb0
        go_wp2_with fail
        go_meet
        exact ⟨by rw [← HLG.out]; rfl, BKw2.out⟩
     case rest =>
      obtain ⟨rfl, bk1⟩ := hcut
      have BK1 := Lib.hid bk1
      clear bk1
      have K1BK1 := Lib.hid BK1.out.b
      have hBBK1 := BK1.out.hb
      obtain ⟨p0, p1, p2, p3, p4, p5, pl⟩ := K1BK1.out.box6
      go_upto_region 8 with fail
      go_cut [40] (fun s40 W => s40 = .bool bd ∧ Bk w W 72 #[.int .i64 xk, .bool p.quoted, .string p.text, .string p.op, .slice a1 lw c1, .slice a2 lb c2])
      case first =>
       rcases Nat.eq_zero_or_pos lb with h0 | h0
       · subst h0
         have HBE : Hid (bd = (!lg && !sp)) := Lib.hid (by rw [← HBD.out, show p.body.isEmpty = true from nil_of_len HLB.out rfl]; rfl)
         clear EB2
         cases lg with
         | true =>
           have HE : Hid (bd = false) := Lib.hid (by rw [HBE.out]; rfl)
           go_wp2_with fail
           go_meet
           exact ⟨by rw [HE.out], BK1.out⟩
         | false =>
           have HE : Hid (bd = !sp) := Lib.hid (by rw [HBE.out]; rfl)
           go_wp2_with fail
           refine (CSp.out _ bg).mono ?_
           rintro e w3 ⟨rfl, hb0⟩
           have hBw3 : Below w.heap.size w w3 := since hb0 bg
           have BKw3 := Lib.hid (Bk.later BK1.out (since hb0 bg))
           clear hb0
           go_wp2_with fail
           go_meet
           exact ⟨by rw [HE.out], BKw3.out⟩
       · have HE : Hid (bd = true) := Lib.hid (by rw [← HBD.out, show p.body.isEmpty = false from not_nil_of_len HLB.out h0]; rfl)
         have e3 : decide ((0 : Int) < (lb : Int)) = true := by simp; omega
         go_wp2_with fail
         go_meet
         exact ⟨by rw [HE.out], BK1.out⟩
      case rest =>
       obtain ⟨rfl, bk2⟩ := hcut
       clear p0 p1 p2 p3 p4 p5 pl
       have BK2 := Lib.hid bk2
       clear bk2 BK1
       have K1BK2 := Lib.hid BK2.out.b
       have hBBK2 := BK2.out.hb
       obtain ⟨p0, p1, p2, p3, p4, p5, pl⟩ := K1BK2.out.box6
       cases bd with
       | true =>
         have HE : Hid (r = false) := Lib.hid (by rw [HR.out]; rfl)
         go_wp2_with fail
         go_ret
         exact ⟨ret_bool HE.out.symm, bg⟩
       | false =>
         cases hoe : (L p.op).isEmpty with
         | true =>
           have e1 : p.op.toList.isEmpty = true := by rw [isEmpty_L]; exact hoe
           have HE : Hid (r = p.word.isEmpty) := Lib.hid (by rw [HR.out, hoe]; rfl)
           have e2 := EW.out
           cases hwe : p.word.isEmpty with
           | true =>
             rw [hwe] at e2 HE
             clear hoe hwe
             go_wp2_with fail
             go_ret
             exact ⟨ret_bool HE.out.symm, bg⟩
           | false =>
             rw [hwe] at e2 HE
             clear hoe hwe
             go_wp2_with fail
             go_ret
             exact ⟨ret_bool HE.out.symm, bg⟩
         | false =>
           have e1 : p.op.toList.isEmpty = false := by rw [isEmpty_L]; exact hoe
           cases hol : (L p.op == [108, 101, 110]) with
           | true =>
             have e3 : (p.op.toList == [108, 101, 110]) = true := by rw [toList_L]; exact hol
             have HE : Hid (r = (lg && p.word.isEmpty)) := Lib.hid (by rw [HR.out, hoe, hol]; rfl)
             have e2 := EW.out
             cases hwe : p.word.isEmpty with
             | true =>
               rw [hwe] at e2 HE
               clear hoe hwe hol
               cases lg
               all_goals
                go_wp2_with fail
                go_ret
                exact ⟨ret_bool (by rw [HE.out]; rfl), bg⟩
             | false =>
               rw [hwe] at e2 HE
               clear hoe hwe hol
               go_wp2_with fail
               go_ret
               exact ⟨ret_bool (by rw [HE.out]; simp), bg⟩
           | false =>
             have e3 : (p.op.toList == [108, 101, 110]) = false := by rw [toList_L]; exact hol
             have HE : Hid (r = (!pc && (ob && (!(L p.text == [35]) && wr)))) := Lib.hid (by rw [HR.out, hoe, hol]; rfl)
             clear hoe hol
             cases h37 : (L p.op == [37]) with
             | false =>
               have e4 : (p.op.toList == [37]) = false := by rw [toList_L]; exact h37
               have HE3 : Hid (r = (ob && (!(L p.text == [35]) && wr))) := Lib.hid (by rw [HE.out, ← HPC.out, show pctB p = false from by rw [pctB, h37]; rfl]; rfl)
               clear h37
               go_wp2_with fail
               refine (COp.out _ bg).mono ?_
               rintro e w5 ⟨rfl, hb0⟩
               have hBw5 : Below w.heap.size w w5 := since hb0 bg
               have BKw5 := Lib.hid (Bk.later BK2.out (since hb0 bg))
               clear hb0
               have K1BKw5 := Lib.hid BKw5.out.b
               have hBBKw5 := BKw5.out.hb
               obtain ⟨p0, p1, p2, p3, p4, p5, pl⟩ := K1BKw5.out.box6
               cases ob with
               | false =>
                 go_wp2_with fail
                 go_ret
                 exact ⟨ret_bool HE3.out.symm, bg⟩
               | true =>
                 cases h35 : (L p.text == [35]) with
                 | true =>
                   have e5 : (p.text.toList == [35]) = true := by rw [toList_L]; exact h35
                   rw [h35] at HE3
                   clear h35
                   go_wp2_with fail
                   go_ret
                   exact ⟨ret_bool HE3.out.symm, bg⟩
                 | false =>
                   have e5 : (p.text.toList == [35]) = false := by rw [toList_L]; exact h35
                   rw [h35] at HE3
                   clear h35
                   go_wp2_with fail
                   refine (CW.out _ bg).mono ?_
                   rintro e w6 ⟨rfl, hb0⟩
                   have hBw6 : Below w.heap.size w w6 := since hb0 bg
                   have BKw6 := Lib.hid (Bk.later BKw5.out (since hb0 bg))
                   clear hb0
                   go_wp2_with fail
                   go_ret
                   exact ⟨ret_bool HE3.out.symm, bg⟩
             | true =>
               have e4 : (p.op.toList == [37]) = true := by rw [toList_L]; exact h37
               rcases Nat.eq_zero_or_pos lw with h0 | h0
               · subst h0
                 have hwn : p.word = [] := List.length_eq_zero_iff.1 HLW.out
                 have HE3 : Hid (r = (ob && (!(L p.text == [35]) && wr))) := Lib.hid (by rw [HE.out, ← HPC.out, show pctB p = false from by rw [pctB, h37, hwn]; rfl]; rfl)
                 clear h37 hwn
                 go_wp2_with fail
                 refine (COp.out _ bg).mono ?_
                 rintro e w5 ⟨rfl, hb0⟩
                 have hBw5 : Below w.heap.size w w5 := since hb0 bg
                 have BKw5 := Lib.hid (Bk.later BK2.out (since hb0 bg))
                 clear hb0
                 have K1BKw5 := Lib.hid BKw5.out.b
                 have hBBKw5 := BKw5.out.hb
                 obtain ⟨p0, p1, p2, p3, p4, p5, pl⟩ := K1BKw5.out.box6
                 cases ob with
                 | false =>
                   go_wp2_with fail
                   go_ret
                   exact ⟨ret_bool HE3.out.symm, bg⟩
                 | true =>
                   cases h35 : (L p.text == [35]) with
                   | true =>
                     have e5 : (p.text.toList == [35]) = true := by rw [toList_L]; exact h35
                     rw [h35] at HE3
                     clear h35
                     go_wp2_with fail
                     go_ret
                     exact ⟨ret_bool HE3.out.symm, bg⟩
                   | false =>
                     have e5 : (p.text.toList == [35]) = false := by rw [toList_L]; exact h35
                     rw [h35] at HE3
                     clear h35
                     go_wp2_with fail
                     refine (CW.out _ bg).mono ?_
                     rintro e w6 ⟨rfl, hb0⟩
                     have hBw6 : Below w.heap.size w w6 := since hb0 bg
                     have BKw6 := Lib.hid (Bk.later BKw5.out (since hb0 bg))
                     clear hb0
                     go_wp2_with fail
                     go_ret
                     exact ⟨ret_bool HE3.out.symm, bg⟩
               · obtain ⟨x, b, o, ⟨xr, hx⟩, hxt, hi, hbB, g0, g1, g2⟩ := HW.out.first14 (by rw [HLW.out]; exact h0)
                 have hbB2 := Nat.lt_of_lt_of_le hbB hBBK2.size
                 have hp0 : pctB p = (x.kind == 1 && !x.quoted && List.isPrefixOf [37] (L x.text)) := by rw [pctB, h37, hx]; rfl
                 have HP0 := Lib.hid hp0
                 rw [← hBBK2.cell (p := ⟨b, o, none⟩) hbB] at g0
                 rw [← hBBK2.cell (p := ⟨b, o + 1, none⟩) hbB] at g1
                 rw [← hBBK2.cell (p := ⟨b, o + 2, none⟩) hbB] at g2
                 obtain ⟨xk2, hxk⟩ : ∃ k, x.kind = k := ⟨_, rfl⟩
                 obtain ⟨xq, hxq⟩ : ∃ k, x.quoted = k := ⟨_, rfl⟩
                 obtain ⟨xt, hxt2⟩ : ∃ k, x.text = k := ⟨_, rfl⟩
                 rw [hxk] at g0 HP0
                 rw [hxq] at g1 HP0
                 rw [hxt2] at g2 HP0 hxt
                 have hlt : decide ((0 : Int) < (lw : Int)) = true := by simp; omega
                 clear h37 hp0 hx hxk hxq hxt2
                 cases hk5 : (xk2 == 1) with
                 | false =>
                   rw [hk5, Bool.false_and, Bool.false_and] at HP0
                   have HE3 : Hid (r = (ob && (!(L p.text == [35]) && wr))) := Lib.hid (by rw [HE.out, ← HPC.out, show pctB p = false from HP0.out]; rfl)
                   skip
                   go_wp2_with fail
                   refine (COp.out _ bg).mono ?_
                   rintro e w5 ⟨rfl, hb0⟩
                   have hBw5 : Below w.heap.size w w5 := since hb0 bg
                   have BKw5 := Lib.hid (Bk.later BK2.out (since hb0 bg))
                   clear hb0
                   have K1BKw5 := Lib.hid BKw5.out.b
                   have hBBKw5 := BKw5.out.hb
                   obtain ⟨p0, p1, p2, p3, p4, p5, pl⟩ := K1BKw5.out.box6
                   cases ob with
                   | false =>
                     go_wp2_with fail
                     go_ret
                     exact ⟨ret_bool HE3.out.symm, bg⟩
                   | true =>
                     cases h35 : (L p.text == [35]) with
                     | true =>
                       have e5 : (p.text.toList == [35]) = true := by rw [toList_L]; exact h35
                       rw [h35] at HE3
                       clear h35
                       go_wp2_with fail
                       go_ret
                       exact ⟨ret_bool HE3.out.symm, bg⟩
                     | false =>
                       have e5 : (p.text.toList == [35]) = false := by rw [toList_L]; exact h35
                       rw [h35] at HE3
                       clear h35
                       go_wp2_with fail
                       refine (CW.out _ bg).mono ?_
                       rintro e w6 ⟨rfl, hb0⟩
                       have hBw6 : Below w.heap.size w w6 := since hb0 bg
                       have BKw6 := Lib.hid (Bk.later BKw5.out (since hb0 bg))
                       clear hb0
                       go_wp2_with fail
                       go_ret
                       exact ⟨ret_bool HE3.out.symm, bg⟩
                 | true =>
                   rw [hk5, Bool.true_and] at HP0
                   cases xq with
                   | true =>
                     rw [Bool.not_true, Bool.false_and] at HP0
                     have HE3 : Hid (r = (ob && (!(L p.text == [35]) && wr))) := Lib.hid (by rw [HE.out, ← HPC.out, show pctB p = false from HP0.out]; rfl)
                     skip
                     go_wp2_with fail
                     refine (COp.out _ bg).mono ?_
                     rintro e w5 ⟨rfl, hb0⟩
                     have hBw5 : Below w.heap.size w w5 := since hb0 bg
                     have BKw5 := Lib.hid (Bk.later BK2.out (since hb0 bg))
                     clear hb0
                     have K1BKw5 := Lib.hid BKw5.out.b
                     have hBBKw5 := BKw5.out.hb
                     obtain ⟨p0, p1, p2, p3, p4, p5, pl⟩ := K1BKw5.out.box6
                     cases ob with
                     | false =>
                       go_wp2_with fail
                       go_ret
                       exact ⟨ret_bool HE3.out.symm, bg⟩
                     | true =>
                       cases h35 : (L p.text == [35]) with
                       | true =>
                         have e5 : (p.text.toList == [35]) = true := by rw [toList_L]; exact h35
                         rw [h35] at HE3
                         clear h35
                         go_wp2_with fail
                         go_ret
                         exact ⟨ret_bool HE3.out.symm, bg⟩
                       | false =>
                         have e5 : (p.text.toList == [35]) = false := by rw [toList_L]; exact h35
                         rw [h35] at HE3
                         clear h35
                         go_wp2_with fail
                         refine (CW.out _ bg).mono ?_
                         rintro e w6 ⟨rfl, hb0⟩
                         have hBw6 : Below w.heap.size w w6 := since hb0 bg
                         have BKw6 := Lib.hid (Bk.later BKw5.out (since hb0 bg))
                         clear hb0
                         go_wp2_with fail
                         go_ret
                         exact ⟨ret_bool HE3.out.symm, bg⟩
                   | false =>
                     rw [Bool.not_false, Bool.true_and] at HP0
                     cases hxe : (L xt) with
                     | nil =>
                       have e6 : xt.toList.isEmpty = true := by rw [isEmpty_L, hxe]; rfl
                       rw [hxe] at HP0
                       have HE3 : Hid (r = (ob && (!(L p.text == [35]) && wr))) := Lib.hid (by rw [HE.out, ← HPC.out, show pctB p = false from HP0.out]; rfl)
                       clear hxe
                       go_wp2_with fail
                       refine (COp.out _ bg).mono ?_
                       rintro e w5 ⟨rfl, hb0⟩
                       have hBw5 : Below w.heap.size w w5 := since hb0 bg
                       have BKw5 := Lib.hid (Bk.later BK2.out (since hb0 bg))
                       clear hb0
                       have K1BKw5 := Lib.hid BKw5.out.b
                       have hBBKw5 := BKw5.out.hb
                       obtain ⟨p0, p1, p2, p3, p4, p5, pl⟩ := K1BKw5.out.box6
                       cases ob with
                       | false =>
                         go_wp2_with fail
                         go_ret
                         exact ⟨ret_bool HE3.out.symm, bg⟩
                       | true =>
                         cases h35 : (L p.text == [35]) with
                         | true =>
                           have e5 : (p.text.toList == [35]) = true := by rw [toList_L]; exact h35
                           rw [h35] at HE3
                           clear h35
                           go_wp2_with fail
                           go_ret
                           exact ⟨ret_bool HE3.out.symm, bg⟩
                         | false =>
                           have e5 : (p.text.toList == [35]) = false := by rw [toList_L]; exact h35
                           rw [h35] at HE3
                           clear h35
                           go_wp2_with fail
                           refine (CW.out _ bg).mono ?_
                           rintro e w6 ⟨rfl, hb0⟩
                           have hBw6 : Below w.heap.size w w6 := since hb0 bg
                           have BKw6 := Lib.hid (Bk.later BKw5.out (since hb0 bg))
                           clear hb0
                           go_wp2_with fail
                           go_ret
                           exact ⟨ret_bool HE3.out.symm, bg⟩
                     | cons c0 cr =>
                       have e6 : xt.toList.isEmpty = false := by rw [isEmpty_L, hxe]; rfl
                       have hsz : 0 < xt.size := by rw [← L_size, hxe]; simp
                       have hidx := run_idx (P := Tryz.prog) Tryz.underlying9 xt (k := .i64) (0 : Int) 0 rfl hsz
                       rw [show (L xt).getD 0 0 = c0 by rw [hxe]; rfl] at hidx
                       have hpp : List.isPrefixOf [37] (L xt) = (37 == c0) := by rw [hxe]; simp [List.isPrefixOf]
                       rw [hpp] at HP0
                       clear hxe hpp
                       by_cases hc0 : c0 = 37
                       · have e7 : (((c0.toNat : Nat) : Int) == 37) = true := eq_byte hc0
                         have HE3 : Hid (r = false) := Lib.hid (by rw [HE.out, ← HPC.out, HP0.out, hc0]; rfl)
                         clear hc0
                         go_wp2_with fail
                         go_ret
                         exact ⟨ret_bool HE3.out.symm, bg⟩
                       · have e7 : (((c0.toNat : Nat) : Int) == 37) = false := ne_byte hc0
                         have HP1 : Hid (pctB p = false) := Lib.hid (by rw [HP0.out, beq_eq_false_iff_ne]; exact fun e => hc0 e.symm)
                         clear hc0
                         have HE3 : Hid (r = (ob && (!(L p.text == [35]) && wr))) := Lib.hid (by rw [HE.out, ← HPC.out, show pctB p = false from HP1.out]; rfl)
                         skip
                         go_wp2_with fail
                         refine (COp.out _ bg).mono ?_
                         rintro e w5 ⟨rfl, hb0⟩
                         have hBw5 : Below w.heap.size w w5 := since hb0 bg
                         have BKw5 := Lib.hid (Bk.later BK2.out (since hb0 bg))
                         clear hb0
                         have K1BKw5 := Lib.hid BKw5.out.b
                         have hBBKw5 := BKw5.out.hb
                         obtain ⟨p0, p1, p2, p3, p4, p5, pl⟩ := K1BKw5.out.box6
                         cases ob with
                         | false =>
                           go_wp2_with fail
                           go_ret
                           exact ⟨ret_bool HE3.out.symm, bg⟩
                         | true =>
                           cases h35 : (L p.text == [35]) with
                           | true =>
                             have e5 : (p.text.toList == [35]) = true := by rw [toList_L]; exact h35
                             rw [h35] at HE3
                             clear h35
                             go_wp2_with fail
                             go_ret
                             exact ⟨ret_bool HE3.out.symm, bg⟩
                           | false =>
                             have e5 : (p.text.toList == [35]) = false := by rw [toList_L]; exact h35
                             rw [h35] at HE3
                             clear h35
                             go_wp2_with fail
                             refine (CW.out _ bg).mono ?_
                             rintro e w6 ⟨rfl, hb0⟩
                             have hBw6 : Below w.heap.size w w6 := since hb0 bg
                             have BKw6 := Lib.hid (Bk.later BKw5.out (since hb0 bg))
                             clear hb0
                             go_wp2_with fail
                             go_ret
                             exact ⟨ret_bool HE3.out.symm, bg⟩
end Go.Proofs.YtnackmnoldkihaaGreatDoor
