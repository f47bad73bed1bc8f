/-
  The walk of VarsPlay.
-/
import Derived.Test.YthfnkgofkdahfaaGreatDoorP8
import Derived.Deep.RegionLaw
namespace Go.Proofs.YthfnkgofkdahfaaGreatDoor
open Go.RowKit

set_option maxHeartbeats 4000000 in
set_option maxRecDepth 100000 in
theorem play_any (ae : Option Addr) (ne ce : Nat) (es : List ByteArray) (aa : Option Addr) (ca : Nat) (as0 : List ByteArray) (a : Option Addr) (cap : Nat) (ops : List Opd) (nm pm : ByteArray) (w : World) (hE : Elems w w.heap.size ae ne (es.map .string)) (hA : EA w w.heap.size aa ca as0) (hO : OpsIn w w.heap.size a ops) (hH : Held w) (htab : Tab w)
    (hze : ∀ s ∈ es, s.size ≤ 1048576) (hza : ∀ s ∈ as0, s.size ≤ 1048576) (hzo : ∀ o ∈ ops, o.name.size ≤ 1048576 ∧ o.text.size ≤ 1048576 ∧ (∀ s ∈ o.args, s.size ≤ 1048576) ∧ (-9223372036854775808 ≤ o.n ∧ o.n ≤ 9223372036854775807)) (hnz : nm.size ≤ maxLen) (hpz : pm.size ≤ maxLen) :
    Calls Tryz.prog 3 #[.slice ae ne ce, .slice aa as0.length ca, .slice a ops.length cap, .string nm, .string pm] w fun e w' => e = .returned (.bool true) ∧ Below w.heap.size w w' := by
  obtain ⟨⟨m0, hm0⟩, h0⟩ := hH
  have hel : es.length = ne := by simpa using hE.1
  obtain ⟨na, hna⟩ : ∃ n, n = as0.length := ⟨_, rfl⟩
  have C0 := Lib.hid (anchor_any w)
  have CS : Hid (∀ W, Below w.heap.size w W → Calls Tryz.prog 5 #[.slice a ops.length cap, .slice ae ne ce, .slice aa na ca] W (SmallP W ops ne na)) := Lib.hid fun W hW =>
    small_any a cap ops ae ne ce aa na ca W (by have := hO.below hW; exact ⟨this.1, this.2.imp id fun ⟨b, off, q1, q2, q3⟩ => ⟨b, off, q1, Nat.lt_of_lt_of_le q2 hW.size, fun i o ho => by obtain ⟨x, c, r1, r2⟩ := q3 i o ho; exact ⟨x, c, r1, r2.mono hW.size⟩⟩⟩) hE.2.1 (by rw [hna]; exact hA.1.2.1) fun o ho => by have := hzo o ho; unfold maxLen; omega
  have HEL := Lib.hid hel
  have HE := Lib.hid hE
  have HA := Lib.hid hA
  have HO := Lib.hid hO
  have HZE := Lib.hid hze
  have HZA := Lib.hid hza
  have HZO := Lib.hid hzo
  have HTB := Lib.hid htab
  have HNA := Lib.hid hna
  have HM0 : Hid (∀ W, Below w.heap.size w W → W.cell? ⟨0, 0, none⟩ = some (.int .i64 m0)) := Lib.hid fun W hW => (hW.cell (p := ⟨0, 0, none⟩) h0).trans hm0
  obtain ⟨m, hm⟩ : ∃ m, m = ops.length := ⟨_, rfl⟩
  have HM := Lib.hid hm
  unfold maxLen at hnz hpz
  rw [← hm] at CS ⊢
  rw [← hna]
  clear hel hE hA hO hze hza hzo hm0 hm hna htab
  go_enter Tryz.func3, Tryz.ntmps3
  go_wp2_with fail
  refine C0.out.mono ?_
  rintro e w1 ⟨rfl, hb1⟩
  have HB1 := Lib.hid hb1
  clear hb1
  go_wp2_with fail
  refine (CS.out _ HB1.out).mono ?_
  rintro e w2 ⟨b, rfl, hb2, hsm⟩
  have HB2 : Hid (Below w.heap.size w w2) := Lib.hid (HB1.out.trans (hb2.mono HB1.out.size))
  clear hb2
  cases b with
  | false =>
    clear hsm
    go_wp2_with fail
    go_ret
    exact ⟨rfl, HB2.out⟩
  | true =>
    by_cases t1 : (100 : Int) < (nm.size : Int)
    · clear hsm
      go_wp2_with fail
      go_ret
      exact ⟨rfl, HB2.out⟩
    by_cases t2 : (100 : Int) < (pm.size : Int)
    · have t1' : decide ((100 : Int) < (nm.size : Int)) = false := decide_eq_false t1
      clear hsm t1
      go_wp2_with fail
      go_ret
      exact ⟨rfl, HB2.out⟩
    have t1' : decide ((100 : Int) < (nm.size : Int)) = false := decide_eq_false t1
    have t2' : decide ((100 : Int) < (pm.size : Int)) = false := decide_eq_false t2
    have hnm : nm.size ≤ 100 := by omega
    have hpm : pm.size ≤ 100 := by omega
    have HSZ := Lib.hid (And.intro hnm hpm)
    obtain ⟨hfew, hm60, hne30, hna50⟩ := hsm rfl
    have HFEW := Lib.hid hfew
    rw [← HM.out] at hm60
    clear hfew hsm t1 t2 hnm hpm
    have CN : Hid (Calls Tryz.prog 6 #[.slice ae ne ce, .string ⟨#[115, 104]⟩, .slice aa na ca] w2 fun e w' => ∃ g mb, e = .returned (.pointer (some ⟨g, 0, none⟩)) ∧ VSt w' w2.heap.size g mb ne (newL (es.map L)) as0 0 ∧ Below w2.heap.size w2 w') := Lib.hid
      (pnew_any ae ne ce es aa na ca as0 w2 w.heap.size m0 (HE.out.below HB2.out) (by rw [HNA.out]; exact (HA.out.below HB2.out).1) HB2.out.size (by omega) (by omega) (fun s hs => fine_short (HZE.out s hs)) (HM0.out w2 HB2.out) (by have := HB2.out.size; omega))
    go_wp2_with fail
    refine CN.out.mono ?_
    rintro e w3 ⟨g, mb, rfl, hv3, hb3⟩
    have HB3 : Hid (Below w.heap.size w w3) := Lib.hid (HB2.out.trans (hb3.mono HB2.out.size))
    have HV3 := Lib.hid hv3
    have CR : Hid (Calls Tryz.prog 7 #[.slice ae ne ce, .string ⟨#[115, 104]⟩, .slice aa na ca] w3 fun e w' => ∃ V', e = .returned V' ∧ RSt w' w3.heap.size w.heap.size V' (newL (es.map L)) as0 0 ∧ Below w3.heap.size w3 w') := Lib.hid
      (rnew_any ae ne ce es aa na ca as0 w3 w.heap.size (HE.out.below HB3.out) (by rw [HNA.out]; exact (HA.out.below HB3.out).1) HB3.out.size (by omega) (fun s hs => by have := HZE.out s hs; omega) (by rw [HNA.out]; exact HA.out.2.1) HA.out.2.2)
    have hs2 := HB2.out.size
    have hg3 := hv3.lt
    have hg4 := hv3.ge
    have hs3 := hb3.size
    clear hv3 hb3
    go_wp2_with fail
    refine CR.out.mono ?_
    rintro e w4 ⟨V4, rfl, hr4, hb4⟩
    have HV4 := Lib.hid (HV3.out.below hb4)
    have HB4 : Hid (Below w.heap.size w w4) := Lib.hid (HB3.out.trans (hb4.mono HB3.out.size))
    have hs4 := hb4.size
    obtain ⟨vL4, a4, c4, rfl, hL4, hA4⟩ := hr4
    have HL4 := Lib.hid hL4
    have HA4 := Lib.hid hA4
    obtain ⟨la4, lc4, rfl⟩ := own_shape hL4
    obtain ⟨l0, hl0⟩ : ∃ x, x = newL (es.map L) := ⟨_, rfl⟩
    rw [← hl0] at HV4 HL4 ⊢
    have HL0 := Lib.hid hl0
    rw [← HNA.out]
    clear hb4 hL4 hA4 hl0
    have hbx : Below w4.heap.size w4 (w4.alloc (.cells #[.slice la4 l0.length lc4, .string ⟨#[115, 104]⟩, .slice a4 na c4, .int .i64 0] 30)) := (Below.refl _ _).alloc (Nat.le_refl _) _
    have CC : Hid (Calls Tryz.prog 8 #[.pointer (some ⟨g, 0, none⟩)] (w4.alloc (.cells #[.slice la4 l0.length lc4, .string ⟨#[115, 104]⟩, .slice a4 na c4, .int .i64 0] 30)) fun e w' => ∃ g2 mb2, e = .returned (.pointer (some ⟨g2, 0, none⟩)) ∧ VSt w' (w4.heap.size + 1) g2 mb2 ne l0 as0 0 ∧ Below (w4.heap.size + 1) (w4.alloc (.cells #[.slice la4 l0.length lc4, .string ⟨#[115, 104]⟩, .slice a4 na c4, .int .i64 0] 30)) w') := Lib.hid (by
      have := vclone_any _ (HV4.out.below hbx) (by omega) (by rw [← HNA.out]; omega)
      simpa using this)
    clear hbx
    go_wp2_with fail
    refine CC.out.mono ?_
    rintro e w5 ⟨gc, mbc, rfl, hv5, hb5⟩
    have HV5 := Lib.hid hv5
    have HB5 := Lib.hid hb5
    have hs5 : w4.heap.size + 1 ≤ w5.heap.size := by have := hb5.size; simpa using this
    have X12 : Hid (Blk w5 w4.heap.size 30 #[.slice la4 l0.length lc4, .string ⟨#[115, 104]⟩, .slice a4 na c4, .int .i64 0]) := Lib.hid ((Blk.new w4 _ _).below hb5 (Nat.lt_succ_self _))
    have y0 := X12.out.cell 0
    have y1 := X12.out.cell 1
    have y2 := X12.out.cell 2
    have y3 := X12.out.cell 3
    simp at y0 y1 y2 y3
    clear hv5 hb5
    go_wp2_with fail
    obtain ⟨w6, hw6⟩ : ∃ W, W = w5.alloc (.cells #[.slice la4 l0.length lc4, .string ⟨#[115, 104]⟩, .slice a4 na c4, .int .i64 0] 30) := ⟨_, rfl⟩
    have hbx : Below w5.heap.size w5 w6 := by rw [hw6]; exact (Below.refl _ _).alloc (Nat.le_refl _) _
    have hb45 : Below w4.heap.size w4 w5 := ((Below.refl _ _).alloc (Nat.le_refl _) _).trans (HB5.out.mono (Nat.le_succ _))
    have hb46 : Below w4.heap.size w4 w6 := hb45.trans (hbx.mono hb45.size)
    obtain ⟨gx, hgx⟩ : ∃ q, q = w4.heap.size := ⟨_, rfl⟩
    obtain ⟨gy, hgy⟩ : ∃ q, q = w5.heap.size := ⟨_, rfl⟩
    have HXY : Hid (gx = w4.heap.size ∧ gy = w5.heap.size ∧ gx < gy ∧ g < w3.heap.size ∧ mb < w3.heap.size ∧ w2.heap.size ≤ g ∧ w2.heap.size ≤ mb ∧ w.heap.size ≤ w2.heap.size ∧ w2.heap.size ≤ w3.heap.size ∧ w3.heap.size ≤ w4.heap.size) := Lib.hid ⟨hgx, hgy, by omega, hg3.1, hg3.2, hg4.1, hg4.2.1, hs2, hs3, hs4⟩
    have HB6 : Hid (Below w.heap.size w w6) := Lib.hid (HB4.out.trans (hb46.mono HB4.out.size))
    have Y6 : Hid (Blk w6 gy 30 #[.slice la4 l0.length lc4, .string ⟨#[115, 104]⟩, .slice a4 na c4, .int .i64 0]) := Lib.hid (by rw [hw6, hgy]; exact Blk.new w5 _ _)
    have X6 : Hid (Blk w6 gx 30 #[.slice la4 l0.length lc4, .string ⟨#[115, 104]⟩, .slice a4 na c4, .int .i64 0]) := Lib.hid (by rw [hw6, hgx]; exact X12.out.alloc _)
    have HI0 : Hid (Inv l0 as0 0) := Lib.hid ⟨by rw [← HNA.out]; exact hna50, HZA.out, by omega, by rw [HL0.out]; exact Nul.newL _⟩
    have HLL : Hid (l0.length ≤ ne) := Lib.hid (by
      have := newL_len (es.map L) ne (by rw [List.length_map, HEL.out]; exact Nat.le_refl _)
      rw [List.take_of_length_le (by rw [List.length_map, HEL.out]; exact Nat.le_refl _)] at this
      rw [HL0.out]; exact this)
    have HP1 : Hid (PX w6 w.heap.size w2.heap.size w3.heap.size g mb gx ne l0 as0 0) := Lib.hid (by
      obtain ⟨v, hv⟩ := HV4.out
      have h1 := X6.out
      rw [HNA.out] at h1
      exact ⟨v, la4, lc4, a4, c4, hv.below hb46, own_below HL4.out hb46, HA4.out.below (hb46.mono HB4.out.size), h1⟩)
    have HP2 : Hid (PX w6 w.heap.size (w4.heap.size + 1) w3.heap.size gc mbc gy ne l0 as0 0) := Lib.hid (by
      obtain ⟨v, hv⟩ := HV5.out
      have h1 := Y6.out
      rw [HNA.out] at h1
      exact ⟨v, la4, lc4, a4, c4, hv.below hbx, own_below HL4.out hb46, HA4.out.below (hb46.mono HB4.out.size), h1⟩)
    have HS6 : Hid (w5.heap.size < w6.heap.size) := Lib.hid (by rw [hw6]; simp)
    rw [← hw6, ← hgx, ← hgy]
    have hm60' : m ≤ 60 := hm60
    clear hw6 hbx hb45 hb46 hgx hgy y0 y1 y2 y3 hg3 hg4 hs2 hs3 hs4 hs5
    go_loopw [13, 48] (fun cp i wr => ∃ (k : Nat) (l : List (Nm × Xd)) (xs : List ByteArray) (st : Int) (lc : List (Nm × Xd)) (xsc : List ByteArray) (stc : Int) (loC gc mbc : Nat), k ≤ m ∧ i = .int .i64 k ∧ cp = .pointer (some ⟨gc, 0, none⟩) ∧ PX wr w.heap.size w2.heap.size w3.heap.size g mb gx (ne + k) l xs st ∧ PX wr w.heap.size loC w3.heap.size gc mbc gy (ne + k) lc xsc stc ∧ Inv l xs st ∧ Inv lc xsc stc ∧ l.length ≤ ne + k ∧ lc.length ≤ ne + k ∧ w4.heap.size < loC ∧ Below w.heap.size w wr ∧ w5.heap.size < wr.heap.size) (fun _ i _ => m - (intOf i).toNat)
    case atStart => exact ⟨0, l0, as0, 0, l0, as0, 0, w4.heap.size + 1, gc, mbc, Nat.zero_le _, rfl, rfl, HP1.out, HP2.out, HI0.out, HI0.out, HLL.out, HLL.out, Nat.lt_succ_self _, HB6.out, HS6.out⟩
    case round =>
      obtain ⟨k, l, xs, st, lc, xsc, stc, loC, gc, mbc, hk, rfl, rfl, hP, hPc, hI, hIc, hll, hlc, hlo, hb, hws⟩ := hrel
      have HPc := Lib.hid hPc
      have HI := Lib.hid hI
      have HIc := Lib.hid hIc
      have HB := Lib.hid hb
      obtain ⟨v, va, vc, xa, xc, q1, q2, q3, q4⟩ := hP
      have HQ1 := Lib.hid q1
      have HQ2 := Lib.hid q2
      have HQ3 := Lib.hid q3
      have HQ4 := Lib.hid q4
      have g0 := q4.cell 0
      have g1 := q4.cell 1
      have g2 := q4.cell 2
      have g3 := q4.cell 3
      have hgxl := q4.lt
      simp at g0 g1 g2 g3
      clear hPc hI hIc hb q1 q2 q3 q4
      by_cases hlt : k < m
      · obtain ⟨o, hx⟩ : ∃ x, ops[k]? = some x := ⟨_, List.getElem?_eq_getElem (by rw [← HM.out]; exact hlt)⟩
        obtain ⟨ob, off, x, c, i1, hobB, c0, c1, c2, c3, c4', hEA⟩ := op_at (cap := cap) (HO.out.below HB.out) HM.out hx
        have hfo := HFEW.out o (List.mem_of_getElem? hx)
        have hzo := HZO.out o (List.mem_of_getElem? hx)
        have hbw : ob < wr.heap.size := by have := HB.out.size; omega
        obtain ⟨r, hr⟩ : ∃ r, doR l xs st o = r := ⟨_, rfl⟩
        have hrl := doR_len l xs st o HI.out.1 hfo.2.2
        have hinv := HI.out.doR hfo.2.2 hzo.2.2.1 hzo.2.2.2
        rw [hr] at hrl hinv
        have HRL := Lib.hid hrl
        have HINV := Lib.hid hinv
        have CD : Hid (Calls Tryz.prog 9 #[.pointer (some ⟨g, 0, none⟩), .agg #[.slice va l.length vc, .string ⟨#[115, 104]⟩, .slice xa xs.length xc, .int .i64 st], .agg #[.int .i64 o.kind, .string o.name, .string o.text, .int .i64 o.n, .slice x o.args.length c]] (wr.alloc (.cells #[.int .i64 o.kind, .string o.name, .string o.text, .int .i64 o.n, .slice x o.args.length c] 34)) (DoP (wr.alloc (.cells #[.int .i64 o.kind, .string o.name, .string o.text, .int .i64 o.n, .slice x o.args.length c] 34)) w2.heap.size w3.heap.size g mb (ne + k) w.heap.size r)) := Lib.hid (by
          rw [← hr]
          have hbx : Below wr.heap.size wr (wr.alloc (.cells #[.int .i64 o.kind, .string o.name, .string o.text, .int .i64 o.n, .slice x o.args.length c] 34)) := (Below.refl _ _).alloc (Nat.le_refl _) _
          obtain ⟨_, _, _, p1, p2, _, _, p3, p4, p5⟩ := HXY.out
          exact do_any o x c _ (HQ1.out.below hbx) ⟨_, xa, xc, rfl, own_below HQ2.out hbx, HQ3.out.below (hbx.mono HB.out.size)⟩ p3 p1 p2 (by simp; omega) (hEA.below (hbx.mono HB.out.size)) (by omega) (by omega) (by have := HI.out.1; omega) (by omega) (by omega) (by omega))
        obtain ⟨kd, onm, tx, num, ags⟩ := o
        simp only at c0 c1 c2 c3 c4' CD
        clear hx hEA hfo hzo hr hrl hinv
        go_wp2_with fail
        refine CD.out.mono ?_
        rintro e w7 ⟨V7, v7, rfl, hv7, hr7, hbu7⟩
        obtain ⟨vL7, xa7, xc7, rfl, hL7, hA7⟩ := hr7
        obtain ⟨la7, lc7, rfl⟩ := own_shape hL7
        have HV7 := Lib.hid hv7
        have HL7 := Lib.hid hL7
        have HA7 := Lib.hid hA7
        have hne7 : gx ≠ g ∧ gx ≠ mb ∧ gy ≠ g ∧ gy ≠ mb := by have := HXY.out; omega
        have HG7 : Hid (Blk w7 gx 30 #[.slice va l.length vc, .string ⟨#[115, 104]⟩, .slice xa xs.length xc, .int .i64 st]) := Lib.hid ((HQ4.out.alloc _).but hbu7 hne7.1 hne7.2.1)
        have HB7 : Hid (Below w.heap.size w w7) := Lib.hid ((HB.out.alloc HB.out.size _).trans (hbu7.below (by have := HXY.out; omega) (by have := HXY.out; omega) (by have := HB.out.size; simp; omega)))
        have HW7 : Hid (w5.heap.size < w7.heap.size) := Lib.hid (by have := hbu7.size; simp at this; omega)
        have HPc7 : Hid (PX w7 w.heap.size loC w3.heap.size gc mbc gy (ne + (k + 1)) lc xsc stc) := Lib.hid (by
          have hxy := HXY.out
          have h1 := HPc.out.below ((Below.refl _ _).alloc (Nat.le_refl _) (.cells #[.int .i64 kd, .string onm, .string tx, .int .i64 num, .slice x ags.length c] 34)) HB.out.size
          exact (h1.but hbu7 (by omega) (by omega) (by omega) (by omega) (by omega) (by omega) (by have := HB.out.size; simp; omega) hne7.2.2.1 hne7.2.2.2).mono (by omega))
        clear g0 g1 g2 g3 hv7 hL7 hA7 hbu7
        have g0 := HG7.out.cell 0
        have g1 := HG7.out.cell 1
        have g2 := HG7.out.cell 2
        have g3 := HG7.out.cell 3
        have f0 := HG7.out.free 0
        have f1 := HG7.out.free 1
        have f2 := HG7.out.free 2
        have f3 := HG7.out.free 3
        simp at g0 g1 g2 g3
        have hgB : w.heap.size ≤ gx ∧ w.heap.size ≤ gy := by have := HXY.out; omega
        have HGN : Hid (gx ≠ gy) := Lib.hid (by have := HXY.out; omega)
        by_cases hhalf : (k : Int) = (m : Int) / 2
        · have hh : ((k : Int) == (m : Int) / 2) = true := by simpa using hhalf
          clear hhalf
          go_wp2_with fail
          obtain ⟨w8, hw8⟩ : ∃ W, W = (((w7.setCell ⟨gx, 0, none⟩ (.slice la7 r.1.length lc7)).setCell ⟨gx, 1, none⟩ (.string ⟨#[115, 104]⟩)).setCell ⟨gx, 2, none⟩ (.slice xa7 r.2.1.length xc7)).setCell ⟨gx, 3, none⟩ (.int .i64 r.2.2) := ⟨_, rfl⟩
          have HB8 : Hid (Below w.heap.size w w8) := Lib.hid (by rw [hw8]; exact below_put4 HB7.out hgB.1 _ _ _ _)
          have HS8 : Hid (w5.heap.size < w8.heap.size) := Lib.hid (by rw [hw8]; have := HW7.out; simp only [World.size_setCell]; exact this)
          have hgx8 : Blk w8 gx 30 #[.slice la7 r.1.length lc7, .string ⟨#[115, 104]⟩, .slice xa7 r.2.1.length xc7, .int .i64 r.2.2] := by rw [hw8]; exact HG7.out.put4 _ _ _ _
          have HG8 := Lib.hid hgx8
          have HV8 : Hid (VS v7 w8 w2.heap.size g mb (ne + k + 1) r.1 r.2.1 r.2.2) := Lib.hid (by
            have e1 : v7.ownBlock ≠ some gx := own_ne_blk HV7.out.own HG7.out (by decide)
            rw [hw8]
            exact HV7.out.put4 hne7.1 hne7.2.1 e1 _ _ _ _)
          have HL8 : Hid (LSt w8 w3.heap.size (.slice la7 r.1.length lc7) r.1) := Lib.hid (by
            have e2 : (Value.slice la7 r.1.length lc7).ownBlock ≠ some gx := own_ne_blk HL7.out HG7.out (by decide)
            rw [hw8]
            exact own_put4far HL7.out e2 _ _ _ _)
          have HA8 : Hid (EA w8 w.heap.size xa7 xc7 r.2.1) := Lib.hid (by rw [hw8]; exact HA7.out.below (below_put4 (Below.refl _ _) hgB.1 _ _ _ _))
          have HPc8 : Hid (PX w8 w.heap.size loC w3.heap.size gc mbc gy (ne + (k + 1)) lc xsc stc) := Lib.hid (by rw [hw8]; exact HPc7.out.put4 HG7.out (Ne.symm HGN.out) hgB.1 _ _ _ _)
          obtain ⟨_, ya, yc, yxa, yxc, _, _, _, hy8⟩ := HPc8.out
          have HY8 := Lib.hid hy8
          rw [← hw8]
          clear hw8 g0 g1 g2 g3 f0 f1 f2 f3
          have g0 := hgx8.cell 0
          have g1 := hgx8.cell 1
          have g2 := hgx8.cell 2
          have g3 := hgx8.cell 3
          have z0 := hy8.cell 0
          have z1 := hy8.cell 1
          have z2 := hy8.cell 2
          have z3 := hy8.cell 3
          have f0 := hy8.free 0
          have f1 := hy8.free 1
          have f2 := hy8.free 2
          have f3 := hy8.free 3
          simp at g0 g1 g2 g3 z0 z1 z2 z3
          have hxl8 := hgx8.lt
          have hyl8 := hy8.lt
          have CL : Hid (∀ W, VSt W w2.heap.size g mb (ne + k + 1) r.1 r.2.1 r.2.2 → Calls Tryz.prog 8 #[.pointer (some ⟨g, 0, none⟩)] W fun e w' => ∃ g9 mb9, e = .returned (.pointer (some ⟨g9, 0, none⟩)) ∧ VSt w' W.heap.size g9 mb9 (ne + k + 1) r.1 r.2.1 r.2.2 ∧ Below W.heap.size W w') := Lib.hid fun W hW => vclone_any W hW (by omega) (by have := HRL.out.2; omega)
          have HVA : Hid (VSt w8.drew w2.heap.size g mb (ne + k + 1) r.1 r.2.1 r.2.2) := Lib.hid ⟨v7, HV8.out.below (Below.drew (Below.refl _ _))⟩
          have HVB : Hid (VSt ((((w8.drew.setCell ⟨gy, 0, none⟩ (.slice la7 r.1.length lc7)).setCell ⟨gy, 1, none⟩ (.string ⟨#[115, 104]⟩)).setCell ⟨gy, 2, none⟩ (.slice xa7 r.2.1.length xc7)).setCell ⟨gy, 3, none⟩ (.int .i64 r.2.2)) w2.heap.size g mb (ne + k + 1) r.1 r.2.1 r.2.2) := Lib.hid (VSt.put4W (HV8.out.below (Below.drew (Below.refl _ _))) (show Blk w8.drew gy 30 _ from hy8) _ _ _ _)
          clear hgx8 hy8
          go_region_law (go_simp; go_at_call 8; (with_reducible refine (CL.out _ (by first | exact HVA.out | exact HVB.out)).mono ?_); rintro e w9 ⟨g9, mb9, rfl, hv9, hb9⟩; have q0 := (hb9.cell (p := ⟨gx, 0, none⟩) hxl8).trans g0; have q1 := (hb9.cell (p := ⟨gx, 1, none⟩) hxl8).trans g1; have q2 := (hb9.cell (p := ⟨gx, 2, none⟩) hxl8).trans g2; have q3 := (hb9.cell (p := ⟨gx, 3, none⟩) hxl8).trans g3; have p0 := (hb9.cell (p := ⟨gy, 0, none⟩) hyl8).trans z0; have p1 := (hb9.cell (p := ⟨gy, 1, none⟩) hyl8).trans z1; have p2 := (hb9.cell (p := ⟨gy, 2, none⟩) hyl8).trans z2; have p3 := (hb9.cell (p := ⟨gy, 3, none⟩) hyl8).trans z3; have r0 := (hb9.frozen (p := ⟨gy, 0, none⟩) hyl8).trans f0; have r1 := (hb9.frozen (p := ⟨gy, 1, none⟩) hyl8).trans f1; have r2 := (hb9.frozen (p := ⟨gy, 2, none⟩) hyl8).trans f2; have r3 := (hb9.frozen (p := ⟨gy, 3, none⟩) hyl8).trans f3)
          all_goals
            have hb9' : Below w8.heap.size w8 w9 := (Below.drew (Below.refl _ _)).trans hb9
            have HB9 := Lib.hid hb9'
            have HV9 : Hid (VSt w9 w8.heap.size g9 mb9 (ne + k + 1) r.1 r.2.1 r.2.2) := Lib.hid hv9
            clear hb9 hb9' hv9 q0 q1 q2 q3 p0 p1 p2 p3 r0 r1 r2 r3
            go_wp2_with fail
            go_roundw
            case rel =>
              obtain ⟨c1, c2⟩ := cloned1 HV8.out HL8.out HA8.out HG8.out HY8.out HGN.out hgB.2 HB8.out.size HB9.out HV9.out
              refine ⟨k + 1, r.1, r.2.1, r.2.2, r.1, r.2.1, r.2.2, w8.heap.size, g9, mb9, by omega, by go_num, rfl, c1, c2, HINV.out, HINV.out, ?_, ?_, ?_, below_put4 (HB8.out.trans (HB9.out.mono HB8.out.size)) hgB.2 _ _ _ _, ?_⟩
              · have := HRL.out.1
                omega
              · have := HRL.out.1
                omega
              · have := HS8.out
                have := HXY.out
                omega
              · have := HS8.out
                have := HB9.out.size
                simp only [World.size_setCell]
                omega
            case measure => simp [intOf]; omega
        · have hh : ((k : Int) == (m : Int) / 2) = false := by simpa using hhalf
          clear hhalf
          go_wp2_with fail
          go_roundw
          case rel =>
            refine ⟨k + 1, r.1, r.2.1, r.2.2, lc, xsc, stc, loC, gc, mbc, by omega, by go_num, rfl, PX.done HV7.out HL7.out HA7.out HG7.out ⟨_, _, _, _, rfl⟩ hgB.1, HPc7.out.put4 HG7.out (Ne.symm HGN.out) hgB.1 _ _ _ _, HINV.out, HIc.out, ?_, by omega, hlo, below_put4 HB7.out hgB.1 _ _ _ _, ?_⟩
            · have := HRL.out.1
              omega
            · have := HW7.out
              simp only [World.size_setCell]
              exact this
          case measure => simp [intOf]; omega
      · obtain rfl : k = m := by omega
        obtain ⟨vc2, ya, yc, yxa, yxc, w1', w2', w3', w4'⟩ := HPc.out
        have HC1 := Lib.hid w1'
        have HC2 := Lib.hid w2'
        have HC3 := Lib.hid w3'
        have HC4 := Lib.hid w4'
        have hxy := HXY.out
        have hbs := HB.out.size
        have CI1 : Hid (Calls Tryz.prog 10 #[.pointer (some ⟨g, 0, none⟩), .agg #[.slice va l.length vc, .string ⟨#[115, 104]⟩, .slice xa xs.length xc, .int .i64 st], .string nm, .string pm] wr fun e w' => e = .returned (.bool true) ∧ Below wr.heap.size wr w') := Lib.hid
          (is_any (lo' := w3.heap.size) (B := w.heap.size) nm pm wr m0 ⟨v, HQ1.out⟩ ⟨_, xa, xc, rfl, HQ2.out, HQ3.out⟩ hbs (by omega) (by omega) (by omega) HI.out.1 HI.out.2.1 HI.out.2.2.1 HSZ.out.1 HSZ.out.2 (HTB.out.on HB.out) (HM0.out wr HB.out) HI.out.2.2.2)
        have CI2 : Hid (∀ W, Below wr.heap.size wr W → Calls Tryz.prog 10 #[.pointer (some ⟨gc, 0, none⟩), .agg #[.slice ya lc.length yc, .string ⟨#[115, 104]⟩, .slice yxa xsc.length yxc, .int .i64 stc], .string nm, .string pm] W fun e w' => e = .returned (.bool true) ∧ Below W.heap.size W w') := Lib.hid fun W hW =>
          is_any (lo' := w3.heap.size) (B := w.heap.size) nm pm W m0 ⟨vc2, HC1.out.below hW⟩ ⟨_, yxa, yxc, rfl, own_below HC2.out hW, HC3.out.below (hW.mono hbs)⟩ (Nat.le_trans hbs hW.size) (by omega) (by omega) (by omega) HIc.out.1 HIc.out.2.1 HIc.out.2.2.1 HSZ.out.1 HSZ.out.2 (HTB.out.on (HB.out.trans (hW.mono hbs))) (HM0.out W (HB.out.trans (hW.mono hbs))) HIc.out.2.2.2
        clear w1' w2' w3' w4' hxy
        go_wp2_with fail
        refine CI1.out.mono ?_
        rintro e w9 ⟨rfl, hb9⟩
        have HB9 := Lib.hid hb9
        have CI3 := Lib.hid (CI2.out w9 hb9)
        have z := HC4.out.below hb9 HC4.out.lt
        have z0 := z.cell 0
        have z1 := z.cell 1
        have z2 := z.cell 2
        have z3 := z.cell 3
        simp at z0 z1 z2 z3
        clear hb9 z g0 g1 g2 g3
        go_wp2_with fail
        refine CI3.out.mono ?_
        rintro e w10 ⟨rfl, hb10⟩
        have HB10 : Hid (Below w.heap.size w w10) := Lib.hid (HB.out.trans ((HB9.out.trans (hb10.mono HB9.out.size)).mono hbs))
        clear hb10
        go_wp2_with fail
        go_ret
        exact ⟨rfl, HB10.out⟩
end Go.Proofs.YthfnkgofkdahfaaGreatDoor
