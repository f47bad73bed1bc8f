/-
  Contracts of functions of the library at this translation, laid by the kit; each one application. Their conditions stand in them.
-/
import Derived.Test.YtmlgmedapbeleaaGreatDoorW9
import Derived.Deep.QuietTactic
import Derived.BigQuiet
import Derived.Test.YtmlgmedapbeleaaGreatDoorW4
import Derived.Test.YtmlgmedapbeleaaGreatDoorW1
import Derived.Test.YtmlgmedapbeleaaGreatDoorW3
import Derived.Test.YtmlgmedapbeleaaGreatDoorW2
import Derived.Deep.RegionHeld3
import Derived.Deep.DeepCutAuto
import Derived.Shelf.SlGeneric
import Derived.Shelf.SlSortCmp.WholeK
import Derived.Ground.SlsfProg
import Derived.Test.YtmlgmedapbeleaaGreatDoorProg
set_option linter.unusedVariables false
set_option linter.unusedSimpArgs false
/-
  The walk of Put: a tree that may be is made on a disk.
-/
namespace Go.Proofs.YtmlgmedapbeleaaGreatDoor
open Go.RowKit

/-- What stands ahead of the last slash of a text's beginning, and behind it. -/
def upTo (s : ByteArray) (n : Nat) : ByteArray := if lastTo (L s) n < 0 then ⟨#[]⟩ else s.extract 0 (lastTo (L s) n).toNat
def nmTo (s : ByteArray) (n : Nat) : ByteArray := if lastTo (L s) n < 0 then s else s.extract ((lastTo (L s) n).toNat + 1) s.size
theorem upTo_all (s : ByteArray) : L (upTo s s.size) = upL (L s) := by
  have e : lastTo (L s) s.size = lastL (L s) := rfl
  rw [upTo, e, upL]
  split
  · rfl
  · rw [S_extract_to, L_S]
theorem nmTo_all (s : ByteArray) : nmTo s s.size = nameS s := by
  have e : lastTo (L s) s.size = lastL (L s) := rfl
  have h := lastTo_lt (L s) (L s).length
  have h1 : -1 ≤ lastL (L s) := h.1
  rw [nmTo, e, nameS]
  split
  · rw [show lastL (L s) + 1 = 0 by omega, S_extract_from]
    show s = S ((L s).drop 0)
    rw [List.drop_zero, S_L]
  · rw [show (lastL (L s) + 1).toNat = (lastL (L s)).toNat + 1 by omega]
theorem upTo_yes {s : ByteArray} {n : Nat} (h : (L s).getD n 0 = 47) : upTo s (n + 1) = s.extract 0 n := by
  rw [upTo, lastTo_yes h, if_neg (by omega)]; rfl
theorem nmTo_yes {s : ByteArray} {n : Nat} (h : (L s).getD n 0 = 47) : nmTo s (n + 1) = s.extract (n + 1) s.size := by
  rw [nmTo, lastTo_yes h, if_neg (by omega)]; rfl
theorem upTo_no {s : ByteArray} {n : Nat} (h : (L s).getD n 0 ≠ 47) : upTo s (n + 1) = upTo s n := by rw [upTo, upTo, lastTo_no h]
theorem nmTo_no {s : ByteArray} {n : Nat} (h : (L s).getD n 0 ≠ 47) : nmTo s (n + 1) = nmTo s n := by rw [nmTo, nmTo, lastTo_no h]
/-- Pieces of a string, as a region that draws wants them. -/
theorem run_sl {P : Program} {T : TypeId} (hT : P.underlying T = some .string) (s : ByteArray) (i j : Int) (a b : Nat) (hi : i = a) (hj : j = b) (h1 : a ≤ b) (h2 : b ≤ s.size) (w : World) :
    (Instr.slice T (.string s) (some (.int .i64 i)) (some (.int .i64 j)) none).run P w = .ok (.string (s.extract a b)) w := by
  subst hi hj
  rw [run_slice_string_if w T s .i64 .i64 _ _ hT, if_pos ⟨by omega, by omega⟩, if_pos ⟨by omega, by omega⟩]; rfl
theorem run_sl_from {P : Program} {T : TypeId} (hT : P.underlying T = some .string) (s : ByteArray) (i : Int) (a : Nat) (hi : i = a) (h1 : a ≤ s.size) (w : World) :
    (Instr.slice T (.string s) (some (.int .i64 i)) none none).run P w = .ok (.string (s.extract a s.size)) w := by
  subst hi
  rw [run_slice_string_from_if w T s .i64 _ hT, if_pos ⟨by omega, by omega⟩]; rfl
theorem run_sl_to {P : Program} {T : TypeId} (hT : P.underlying T = some .string) (s : ByteArray) (j : Int) (b : Nat) (hj : j = b) (h2 : b ≤ s.size) (w : World) :
    (Instr.slice T (.string s) none (some (.int .i64 j)) none).run P w = .ok (.string (s.extract 0 b)) w := by
  subst hj
  rw [run_slice_string_to_if w T s .i64 _ hT, if_pos ⟨by omega, by omega⟩]; rfl
theorem wrap_in (x : Int) (h : -9223372036854775808 ≤ x ∧ x ≤ 9223372036854775807) : IntKind.i64.wrap x = x := by
  unfold IntKind.wrap
  simp [IntKind.bits, IntKind.signed]
  omega
theorem zeroInt (u : World) : (zeroValue 3).run Tryz.prog u = .ok (.int .i64 0) u := by kernel_rfl

theorem mapS_ne_cells {w : World} {b c g : Nat} {cs : Array Value} {t : TypeId} {fr : Nat × Nat} {m : List UInt8 → Option Value} (h : MapS w b c m) (k : w.heap[g]? = some (.cells cs t fr)) : b ≠ g := fun e => by
  subst e
  obtain ⟨D, ⟨es, clock, h0, _⟩, _⟩ := h
  rw [h0] at k
  cases k
/-- Another map grows. -/
theorem Dk.kept {w w' : World} {B db mb : Nat} {ns : List Nd} {ps : List Pl} {used : Int} (h : Dk w B db mb ns ps used) {c n : Nat} {m : List UInt8 → Option Value} (hg : w.grownBy w' (some c)) (hm : MapS w c n m) (hne : c ≠ mb) : Dk w' B db mb ns ps used where
  box := h.box.grown hg (fun e => mapS_ne_cells hm h.box (Option.some.inj e))
  map := h.map.kept hg (fun e => hne (Option.some.inj e).symm)
  len := h.len
  node i n p h1 h2 := by
    have k := h.node i n p h1 h2
    exact ⟨k.box.grown hg (fun e => mapS_ne_cells hm k.box (Option.some.inj e)), k.low,
      k.dat.keep fun b cs fr hb => hg.block b (Array.getElem?_eq_some_iff.1 hb).1 (fun e => mapS_ne_cells hm hb (Option.some.inj e).symm),
      own_keepT k.row fun b cs fr _ hb => hg.block b (Array.getElem?_eq_some_iff.1 hb).1 (fun e => mapS_ne_cells hm hb (Option.some.inj e).symm)⟩
  sep := h.sep
  lowd := h.lowd
  lowm := h.lowm

section
variable {w : World} {B db mb : Nat} {p0 : Pl} {l : List It}

set_option maxHeartbeats 4000000 in
set_option maxRecDepth 100000 in
theorem put_any (h : okTo l l.length) (hw : wts l ≤ 20000) (h30 : l.length ≤ 30) {v : Value} (hl : Tr w B v l) (hD : Dk w B db mb [root0] [p0] 0) (hB : B ≤ w.heap.size) :
    Calls Tryz.prog 8 #[.pointer (some ⟨db, 0, none⟩), .int .i64 1, v] w fun e w' => e = .returned (.bool true) ∧ (∃ ns ps used, Dk w' B db mb ns ps used ∧ Inv l l.length ns) ∧ Below B w w' := by
  obtain ⟨a, cap, rfl, hm⟩ := tr_shape hl
  obtain ⟨w1, hr1, hM1, hG1⟩ := (MapS.made w).put_run (T := 52) (e := 3) Tryz.underlying52 (by unfold maxLen; omega) ⟨#[]⟩ (.int .i64 1) (by unfold maxLen; simp [ByteArray.size])
  rw [atM_zero (l := l)] at hM1
  obtain ⟨n, hn⟩ : ∃ n, n = l.length := ⟨_, rfl⟩
  have hbw1 : Below w.heap.size w w1 := Below.grown (Below.alloc (Below.refl _ _) (Nat.le_refl _) _) hG1 (by simp) (fun q hq => by
    simp only [Option.some.injEq] at hq
    omega)
  have hmb : w.heap.size ≠ mb := by have := hD.map.lt; omega
  have H := Lib.hid h
  have HW := Lib.hid hw
  have H30 := Lib.hid h30
  have HL := Lib.hid hl
  have HB := Lib.hid hB
  have HD1 := Lib.hid (hD.below hbw1)
  have HM1 := Lib.hid hM1
  have HBW1 := Lib.hid hbw1
  have HN := Lib.hid hn
  have HMB := Lib.hid hmb
  rw [← hn] at hm h30 ⊢
  clear h hw hl hD hB hM1 hG1 hbw1 hn hmb
  have hmm := @run_makeMap Tryz.prog
  go_enter Tryz.func8, Tryz.ntmps8
  go_wp2_with fail
  go_loopw [21] (fun i wr => ∃ k : Nat, k ≤ n ∧ i = .int .i64 k ∧ ∃ ns ps used, Dk wr B db mb ns ps used ∧ Inv l k ns ∧ (0 ≤ used ∧ used ≤ (wts (l.take k) : Int)) ∧ MapS wr w.heap.size (k + 1) (atM l k) ∧ Below B w wr) (fun i _ => n - (intOf i).toNat)
  case atStart => exact ⟨0, Nat.zero_le _, rfl, [root0], [p0], 0, HD1.out, inv_zero, ⟨Int.le_refl _, by omega⟩, HM1.out, HBW1.out.mono HB.out⟩
  case round =>
    obtain ⟨k, hk, rfl, ns, ps, used, hD, hI, hU, hM, hb⟩ := hrel
    obtain ⟨wo, rfl⟩ : ∃ wo : World, wo = wr := ⟨_, rfl⟩
    have hbs := hb.size
    by_cases hlt : k < n
    · obtain ⟨x, hx⟩ : ∃ x, l[k]? = some x := ⟨_, List.getElem?_eq_getElem (by rw [← HN.out]; omega)⟩
      obtain ⟨b1, o1, i1, hb1, c1⟩ := it_at (HL.out.below hb) 23 34 Tryz.underlying23 (by kernel_rfl) hx (k : Int) rfl
      obtain ⟨c2, c3, c4, c5, c6⟩ := c1
      rw [← HN.out] at i1
      have hb1' : b1 < wo.heap.size := by have := HB.out; omega
      have hps : x.p.size ≤ 20000 ∧ x.s.size ≤ 20000 := by
        have h1 := wt_le (List.mem_of_getElem? hx)
        have h2 : wt x = x.p.size + x.d.size + x.s.size := rfl
        have := HW.out
        omega
      have HX := Lib.hid hx
      have HD := Lib.hid hD
      have HI := Lib.hid hI
      have HU := Lib.hid hU
      have HM := Lib.hid hM
      have HBB := Lib.hid hb
      have HBS := Lib.hid (Nat.le_trans HB.out hbs)
      obtain ⟨hpz, hsz⟩ := hps
      have HATE : Hid (∀ v : Int, v = (nid l (fstL x) : Int) + 2 → (fun t => if t = L x.p then some (Value.int .i64 v) else atM l k t) = atM l (k + 1)) := Lib.hid fun v hv => atM_succ H.out hx hv
      clear hx hD hI hU hM hb hbs
      by_cases hs : L x.s = []
      ·
        have hse := nil_empty hs
        obtain ⟨NS1, NS2, NS3, U1, U2, CM0, CE0, CR0, hI9, hU9⟩ := step_new (B := B) (db := db) (mb := mb) H.out HW.out H30.out HI.out HX.out hs HU.out
        have CM := Lib.hid CM0
        have CE := Lib.hid CE0
        have CR := Lib.hid CR0
        have HI9 := Lib.hid hI9
        have HU9 := Lib.hid hU9
        have HSX := Lib.hid hs
        clear CM0 CE0 CR0 hI9 hU9 hs
        go_wp2_with fail
        go_quiet (fail)
        obtain ⟨W2, hW2⟩ : ∃ W2, W2 = World.drewN (World.alloc wo (.cells #[.string x.p, .int .i64 x.k, .int .i64 x.m, .string x.d, .string x.s] 34)) nq := ⟨_, rfl⟩
        rw [← hW2]
        have hbk : Blk W2 wo.heap.size 34 #[.string x.p, .int .i64 x.k, .int .i64 x.m, .string x.d, .string x.s] := by rw [hW2]; exact (Blk.new wo _ _).drewN nq
        have HB2 : Hid (Below wo.heap.size wo W2) := Lib.hid (by rw [hW2]; exact below_drewN ((Below.refl _ _).alloc (Nat.le_refl _) _) nq)
        have HBK := Lib.hid hbk
        clear hW2 hbk c2 c3 c4 c5 c6 i1
        have e0 : W2.cell? ⟨wo.heap.size, 0, none⟩ = some (.string x.p) := HBK.out.cell 0
        go_wp2_with fail
        clear e0
        go_loopw [10, 11, 30] (fun u m i wr => ∃ j : Nat, j ≤ x.p.size ∧ i = .int .i64 j ∧ u = .string (upTo x.p j) ∧ m = .string (nmTo x.p j) ∧ Below W2.heap.size W2 wr) (fun _ _ i _ => x.p.size - (intOf i).toNat)
        case atStart => exact ⟨0, Nat.zero_le _, rfl, rfl, rfl, Below.refl _ _⟩
        case round =>
          obtain ⟨j, hj, rfl, rfl, rfl, hb3⟩ := hrel
          obtain ⟨W3, rfl⟩ : ∃ W3 : World, W3 = wr := ⟨_, rfl⟩
          have HB3 := Lib.hid hb3
          have HBK3 := Lib.hid (HBK.out.below hb3 HBK.out.lt)
          have e0 : W3.cell? ⟨wo.heap.size, 0, none⟩ = some (.string x.p) := HBK3.out.cell 0
          clear hb3
          by_cases hlj : j < x.p.size
          · have i0 := run_idx (P := Tryz.prog) (k := .i64) Tryz.underlying9 x.p (j : Int) j rfl hlj
            obtain ⟨d, hd⟩ : ∃ d, d = (L x.p).getD j 0 := ⟨_, rfl⟩
            rw [← hd] at i0
            have HDD := Lib.hid hd
            clear hd
            by_cases h47 : d = 47
            · have heq := eq47 h47
              have r1 := run_sl_to (P := Tryz.prog) Tryz.underlying9 x.p (j : Int) j rfl (by omega)
              have r2 := run_sl_from (P := Tryz.prog) Tryz.underlying9 x.p ((j : Int) + 1) (j + 1) (by omega) (by omega)
              have r3 := wrap_in ((j : Int) + 1) ⟨by omega, by omega⟩
              have HU1 := Lib.hid (upTo_yes (HDD.out.symm.trans h47))
              have HN1 := Lib.hid (nmTo_yes (HDD.out.symm.trans h47))
              clear h47
              go_wp2_with fail
              go_quiet (fail)
              go_wp2_with fail
              go_roundw
              case rel => exact ⟨j + 1, by omega, by go_num, by rw [HU1.out], by rw [HN1.out], below_drewN HB3.out _⟩
              case measure => simp [intOf]; omega
            · have heq := ne47 h47
              have HU1 := Lib.hid (upTo_no (fun e => h47 (HDD.out.trans e)))
              have HN1 := Lib.hid (nmTo_no (fun e => h47 (HDD.out.trans e)))
              clear h47
              go_wp2_with fail
              go_roundw
              case rel => exact ⟨j + 1, by omega, by go_num, by rw [HU1.out], by rw [HN1.out], HB3.out⟩
              case measure => simp [intOf]; omega
          · obtain rfl : j = x.p.size := by omega
            have hup := upTo_all x.p
            have hnm := nmTo_all x.p
            obtain ⟨us, hus⟩ : ∃ us, us = upTo x.p x.p.size := ⟨_, rfl⟩
            rw [← hus] at hup ⊢
            rw [hnm]
            obtain ⟨nm, hnm2⟩ : ∃ nm, nm = nameS x.p := ⟨_, rfl⟩
            rw [← hnm2]
            have husz : us.size ≤ maxLen := by
              have h1 := upL_le (L x.p)
              rw [← hup, L_size, L_size] at h1
              unfold maxLen; omega
            have HUP := Lib.hid hup
            have HNM := Lib.hid hnm2
            have HUZ := Lib.hid husz
            have HD3 := Lib.hid ((HD.out.below HB2.out).below HB3.out)
            have HM3 := Lib.hid ((HM.out.below HB2.out).below HB3.out)
            have HBB3 : Hid (Below B w W3) := Lib.hid (HBB.out.trans ((HB2.out.mono HBS.out).trans (HB3.out.mono (Nat.le_trans HBS.out HB2.out.size))))
            have hlk1 := HM3.out.look (T := 52) (e := 3) Tryz.underlying52 (zeroInt _) x.s (by unfold maxLen; omega)
            have e4 : W3.cell? ⟨wo.heap.size, 4, none⟩ = some (.string x.s) := HBK3.out.cell 4
            have HWO : Hid (wo.heap.size ≠ mb) := Lib.hid (map_ne_cells HD3.out.map HBK3.out)
            have HWM : Hid (w.heap.size ≠ mb) := Lib.hid HMB.out
            have hKS : Hid ((k : Int) + 1 = ((k + 1 : Nat) : Int)) := Lib.hid (by omega)
            clear hup hnm hnm2 hus husz HB2 HB3
            rw [atM, if_pos HSX.out] at hlk1
            have e1 : W3.cell? ⟨wo.heap.size, 1, none⟩ = some (.int .i64 x.k) := HBK3.out.cell 1
            have e2 : W3.cell? ⟨wo.heap.size, 2, none⟩ = some (.int .i64 x.m) := HBK3.out.cell 2
            have e3 : W3.cell? ⟨wo.heap.size, 3, none⟩ = some (.string x.d) := HBK3.out.cell 3
            go_wp2_with fail
            refine (CM.out W3 _ HD3.out (Nat.le_trans HB.out HBB3.out.size)).mono ?_
            rintro e W4 ⟨rfl, ⟨ps4, hd4⟩, hs4, hb4⟩
            have HD4 := Lib.hid hd4
            have HBK4 := Lib.hid (HBK3.out.stay hs4 (by decide) (by decide) (by decide))
            have HM4 := Lib.hid (HM3.out.stay hs4 HWM.out)
            have HBB4 := Lib.hid (HBB3.out.trans hb4)
            have hlk2 := HM4.out.look (T := 52) (e := 3) Tryz.underlying52 (zeroInt _) us HUZ.out
            rw [HUP.out, atM_dir H.out HX.out] at hlk2
            have e4' : W4.cell? ⟨wo.heap.size, 4, none⟩ = some (.string x.s) := HBK4.out.cell 4
            have CE1 := CE.out W4 _ HD4.out (Nat.le_trans HB.out HBB4.out.size)
            rw [← HNM.out] at CE1
            have CE2 := Lib.hid CE1
            clear hd4 hs4 hb4 e0 e1 e2 e3 e4 hlk1 CE1
            go_wp2_with fail
            refine CE2.out.mono ?_
            rintro e W5 ⟨rfl, ⟨ps5, hd5⟩, hs5, hb5⟩
            have HD5 := Lib.hid hd5
            have HBK5 := Lib.hid (HBK4.out.stay hs5 (by decide) (by decide) (by decide))
            have HM5 := Lib.hid (HM4.out.stay hs5 HWM.out)
            have HBB5 := Lib.hid (HBB4.out.trans hb5)
            have e4'' : W5.cell? ⟨wo.heap.size, 4, none⟩ = some (.string x.s) := HBK5.out.cell 4
            clear hd5 hs5 hb5 e4' hlk2
            go_wp2_with fail
            refine (CR.out W5 _ HD5.out).mono ?_
            rintro e W6 ⟨rfl, hd6, hs6, hb6⟩
            have HDz := Lib.hid hd6
            have HBKz := Lib.hid (HBK5.out.stay hs6 (by decide) (by decide) (by decide))
            have HMz := Lib.hid (HM5.out.stay hs6 HWM.out)
            have HBz := Lib.hid (HBB5.out.trans hb6)
            have HNUM : Hid ((ns.length : Int) + 1 = (nid l (fstL x) : Int) + 2) := Lib.hid (by
              have hf : fstL x = L x.p := by rw [fstL, if_pos HSX.out]
              rw [hf, nid_new H.out HX.out HSX.out, HI.out.len]; omega)
            clear hd6 hs6 hb6 e4''
            -- W6: behind Enter (and Release); the map is given the path's number (ns.length : Int) + 1
            have e0' : W6.cell? ⟨wo.heap.size, 0, none⟩ = some (.string x.p) := HBKz.out.cell 0
            go_wp2_with (at_mapUpdate; go_must (refine wpList_put rfl _ _ _ _ rfl _ Tryz.underlying52 rfl HMz.out (by unfold maxLen; omega) x.p (.int .i64 ((ns.length : Int) + 1)) rfl rfl (by unfold maxLen; omega) ?_); intro w7 hm7 hg7; go_frame)
            go_roundw
            case rel =>
              obtain ⟨ps9, hd9⟩ := HDz.out
              refine ⟨k + 1, by omega, by go_num, _, ps9, _, hd9.kept hg7 HMz.out HWM.out, HI9.out, HU9.out, ?_, HBz.out.grown hg7 (Nat.le_trans HB.out HBz.out.size) (fun q hq => by simp only [Option.some.injEq] at hq; have := HB.out; omega)⟩
              rw [HATE.out _ HNUM.out] at hm7
              exact hm7
            case measure => simp [intOf]; omega
      ·
        have hse := ne_empty hs
        obtain ⟨NS2, U2, CE0, hI9, hU9⟩ := step_link (B := B) (db := db) (mb := mb) H.out HW.out H30.out HI.out HX.out hs HU.out
        obtain ⟨jn, hjn⟩ : ∃ jn : Nat, jn = nid l (L x.s) + 1 := ⟨_, rfl⟩
        have hat := atM_link H.out HX.out hs
        rw [← hjn] at CE0 hat
        have CE := Lib.hid CE0
        have HI9 := Lib.hid hI9
        have HU9 := Lib.hid hU9
        have HSX := Lib.hid hs
        have HJN := Lib.hid hjn
        have HAT := Lib.hid hat
        clear CE0 hI9 hU9 hs hjn hat
        go_wp2_with fail
        go_quiet (fail)
        obtain ⟨W2, hW2⟩ : ∃ W2, W2 = World.drewN (World.alloc wo (.cells #[.string x.p, .int .i64 x.k, .int .i64 x.m, .string x.d, .string x.s] 34)) nq := ⟨_, rfl⟩
        rw [← hW2]
        have hbk : Blk W2 wo.heap.size 34 #[.string x.p, .int .i64 x.k, .int .i64 x.m, .string x.d, .string x.s] := by rw [hW2]; exact (Blk.new wo _ _).drewN nq
        have HB2 : Hid (Below wo.heap.size wo W2) := Lib.hid (by rw [hW2]; exact below_drewN ((Below.refl _ _).alloc (Nat.le_refl _) _) nq)
        have HBK := Lib.hid hbk
        clear hW2 hbk c2 c3 c4 c5 c6 i1
        have e0 : W2.cell? ⟨wo.heap.size, 0, none⟩ = some (.string x.p) := HBK.out.cell 0
        go_wp2_with fail
        clear e0
        go_loopw [10, 11, 30] (fun u m i wr => ∃ j : Nat, j ≤ x.p.size ∧ i = .int .i64 j ∧ u = .string (upTo x.p j) ∧ m = .string (nmTo x.p j) ∧ Below W2.heap.size W2 wr) (fun _ _ i _ => x.p.size - (intOf i).toNat)
        case atStart => exact ⟨0, Nat.zero_le _, rfl, rfl, rfl, Below.refl _ _⟩
        case round =>
          obtain ⟨j, hj, rfl, rfl, rfl, hb3⟩ := hrel
          obtain ⟨W3, rfl⟩ : ∃ W3 : World, W3 = wr := ⟨_, rfl⟩
          have HB3 := Lib.hid hb3
          have HBK3 := Lib.hid (HBK.out.below hb3 HBK.out.lt)
          have e0 : W3.cell? ⟨wo.heap.size, 0, none⟩ = some (.string x.p) := HBK3.out.cell 0
          clear hb3
          by_cases hlj : j < x.p.size
          · have i0 := run_idx (P := Tryz.prog) (k := .i64) Tryz.underlying9 x.p (j : Int) j rfl hlj
            obtain ⟨d, hd⟩ : ∃ d, d = (L x.p).getD j 0 := ⟨_, rfl⟩
            rw [← hd] at i0
            have HDD := Lib.hid hd
            clear hd
            by_cases h47 : d = 47
            · have heq := eq47 h47
              have r1 := run_sl_to (P := Tryz.prog) Tryz.underlying9 x.p (j : Int) j rfl (by omega)
              have r2 := run_sl_from (P := Tryz.prog) Tryz.underlying9 x.p ((j : Int) + 1) (j + 1) (by omega) (by omega)
              have r3 := wrap_in ((j : Int) + 1) ⟨by omega, by omega⟩
              have HU1 := Lib.hid (upTo_yes (HDD.out.symm.trans h47))
              have HN1 := Lib.hid (nmTo_yes (HDD.out.symm.trans h47))
              clear h47
              go_wp2_with fail
              go_quiet (fail)
              go_wp2_with fail
              go_roundw
              case rel => exact ⟨j + 1, by omega, by go_num, by rw [HU1.out], by rw [HN1.out], below_drewN HB3.out _⟩
              case measure => simp [intOf]; omega
            · have heq := ne47 h47
              have HU1 := Lib.hid (upTo_no (fun e => h47 (HDD.out.trans e)))
              have HN1 := Lib.hid (nmTo_no (fun e => h47 (HDD.out.trans e)))
              clear h47
              go_wp2_with fail
              go_roundw
              case rel => exact ⟨j + 1, by omega, by go_num, by rw [HU1.out], by rw [HN1.out], HB3.out⟩
              case measure => simp [intOf]; omega
          · obtain rfl : j = x.p.size := by omega
            have hup := upTo_all x.p
            have hnm := nmTo_all x.p
            obtain ⟨us, hus⟩ : ∃ us, us = upTo x.p x.p.size := ⟨_, rfl⟩
            rw [← hus] at hup ⊢
            rw [hnm]
            obtain ⟨nm, hnm2⟩ : ∃ nm, nm = nameS x.p := ⟨_, rfl⟩
            rw [← hnm2]
            have husz : us.size ≤ maxLen := by
              have h1 := upL_le (L x.p)
              rw [← hup, L_size, L_size] at h1
              unfold maxLen; omega
            have HUP := Lib.hid hup
            have HNM := Lib.hid hnm2
            have HUZ := Lib.hid husz
            have HD3 := Lib.hid ((HD.out.below HB2.out).below HB3.out)
            have HM3 := Lib.hid ((HM.out.below HB2.out).below HB3.out)
            have HBB3 : Hid (Below B w W3) := Lib.hid (HBB.out.trans ((HB2.out.mono HBS.out).trans (HB3.out.mono (Nat.le_trans HBS.out HB2.out.size))))
            have hlk1 := HM3.out.look (T := 52) (e := 3) Tryz.underlying52 (zeroInt _) x.s (by unfold maxLen; omega)
            have e4 : W3.cell? ⟨wo.heap.size, 4, none⟩ = some (.string x.s) := HBK3.out.cell 4
            have HWO : Hid (wo.heap.size ≠ mb) := Lib.hid (map_ne_cells HD3.out.map HBK3.out)
            have HWM : Hid (w.heap.size ≠ mb) := Lib.hid HMB.out
            have hKS : Hid ((k : Int) + 1 = ((k + 1 : Nat) : Int)) := Lib.hid (by omega)
            clear hup hnm hnm2 hus husz HB2 HB3
            rw [HAT.out] at hlk1
            have hlk2 := HM3.out.look (T := 52) (e := 3) Tryz.underlying52 (zeroInt _) us HUZ.out
            rw [HUP.out, atM_dir H.out HX.out] at hlk2
            have CE1 := CE.out W3 _ HD3.out (Nat.le_trans HB.out HBB3.out.size)
            rw [← HNM.out] at CE1
            have CE2 := Lib.hid CE1
            clear CE1
            go_wp2_with fail
            refine CE2.out.mono ?_
            rintro e W5 ⟨rfl, hd5, hs5, hb5⟩
            have HDz := Lib.hid hd5
            have HBKz := Lib.hid (HBK3.out.stay hs5 (by decide) (by decide) (by decide))
            have HMz := Lib.hid (HM3.out.stay hs5 HWM.out)
            have HBz := Lib.hid (HBB3.out.trans hb5)
            have e4'' : W5.cell? ⟨wo.heap.size, 4, none⟩ = some (.string x.s) := HBKz.out.cell 4
            have HNUM : Hid ((jn : Int) + 1 = (nid l (fstL x) : Int) + 2) := Lib.hid (by
              have hf : fstL x = L x.s := by rw [fstL, if_neg HSX.out]
              rw [hf, HJN.out]; omega)
            clear hd5 hs5 hb5 e0 e4 hlk1 hlk2
            -- W5: behind Enter (and Release); the map is given the path's number (jn : Int) + 1
            have e0' : W5.cell? ⟨wo.heap.size, 0, none⟩ = some (.string x.p) := HBKz.out.cell 0
            go_wp2_with (at_mapUpdate; go_must (refine wpList_put rfl _ _ _ _ rfl _ Tryz.underlying52 rfl HMz.out (by unfold maxLen; omega) x.p (.int .i64 ((jn : Int) + 1)) rfl rfl (by unfold maxLen; omega) ?_); intro w7 hm7 hg7; go_frame)
            go_roundw
            case rel =>
              obtain ⟨ps9, hd9⟩ := HDz.out
              refine ⟨k + 1, by omega, by go_num, _, ps9, _, hd9.kept hg7 HMz.out HWM.out, HI9.out, HU9.out, ?_, HBz.out.grown hg7 (Nat.le_trans HB.out HBz.out.size) (fun q hq => by simp only [Option.some.injEq] at hq; have := HB.out; omega)⟩
              rw [HATE.out _ HNUM.out] at hm7
              exact hm7
            case measure => simp [intOf]; omega
    · obtain rfl : k = n := by omega
      have HD := Lib.hid hD
      have HI := Lib.hid hI
      have HBB := Lib.hid hb
      clear hD hI hb
      go_wp2_with fail
      go_ret
      exact ⟨rfl, ⟨ns, ps, used, HD.out, HI.out⟩, HBB.out⟩
end
end Go.Proofs.YtmlgmedapbeleaaGreatDoor
/-
  The walk of Clone at a directory's entries.
-/
namespace Go.Proofs.YtmlgmedapbeleaaGreatDoor
open Go.RowKit

/-- append(s, x...) of nothing. -/
theorem append_zero {P : Program} {w : World} {ops : Array Oper} {rest : List Oper} {o : Oper} {a : Act} {Q : Exit → Act → World → Prop} (hgd : o.guard = none) (s x : Operand) (t : TypeId)
    (ho : o.op = .call { callee := .builtin .append, args := #[s, x], argTypes := #[t, t] })
    (base : Nat) (e : TypeId) (size : Nat) (ht : P.underlying t = some (.slice e)) (hi : (P.info? e).map (·.size) = some size)
    (g : Nat) (hs : a.eval s = .slice (some ⟨g, 0, none⟩) 0 0) (hown : w.ownsRow base e size (.slice (some ⟨g, 0, none⟩) 0 0) 0 []) (ad : Addr) (c : Nat) (hx : a.eval x = .slice (some ad) 0 c)
    (h : ∀ w', w.grownBy w' (some g) → w'.ownsRow base e size (.slice (some ⟨g, 0, none⟩) 0 0) 0 [] → wpList P ops Q rest (a.put o.dst (.slice (some ⟨g, 0, none⟩) 0 0)) w') : wpList P ops Q (o :: rest) a w := by
  obtain ⟨i, hi1, hi2⟩ := Option.map_eq_some_iff.1 hi
  refine wpList_plain hgd fun K hK => ?_
  obtain ⟨w', hrun, ho', hg⟩ := run_append_fits (P := P) w base t o.type e i size ht hi1 hi2 g 0 0 [] hown ad 0 c [] (by simp) (by simp) (by simp) (Nat.le_refl _)
  unfold Oper.wp
  simp [execOp, ho, resolve, invoke, builtin, hs, hx, hrun, Result.andThen]
  exact hK _ _ (h w' hg (by simpa using ho'))

set_option maxRecDepth 100000 in
theorem clone_any (es : List (ByteArray × Int)) (v : Value) (w : World) (hs : Sl w w.heap.size 2 v es.length (es.flatMap enC)) (h30 : es.length ≤ 100) :
    Calls Tryz.prog 76 #[v] w fun e w' => ∃ v', e = .returned v' ∧ w'.ownsRow w.heap.size 84 2 v' es.length (es.flatMap enC) ∧ Below w.heap.size w w' := by
  obtain ⟨a0, cap, rfl⟩ : ∃ a0 cap, v = .slice a0 es.length cap := by obtain ⟨_, a, c, h, _⟩ := hs; exact ⟨a, c, h⟩
  have HS := Lib.hid hs
  have HO : Hid (Go.World.ownsRow (World.alloc w (.cells #[] 84)) w.heap.size 84 2 (.slice (some ⟨w.heap.size, 0, none⟩) 0 0) 0 []) := Lib.hid (World.ownsRow_lit w #[] 0 (Nat.le_refl _) (by decide) rfl)
  have hnil := fun W => Lib.run_eql_slice_nil (P := Tryz.prog) W 47 84 a0 es.length cap 0 0 Tryz.underlying47
  clear hs
  cases a0 with
  | none =>
    go_enter Tryz.func76, Tryz.ntmps76
    go_wp2_with fail
    go_ret
    refine ⟨_, rfl, ?_, Below.refl _ _⟩
    obtain ⟨h1, a, c, h2, _, _, h3⟩ := HS.out
    simp only [Value.slice.injEq] at h2
    rcases h3 with h3 | ⟨b, o, h3, _⟩
    · have h5 := List.eq_nil_of_length_eq_zero h3
      subst h5
      exact World.ownsRow_nil _ _ _ _
    · rw [h3] at h2; exact absurd h2.1 (by simp)
  | some ad =>
    by_cases h0 : es.length = 0
    · have h5 := List.eq_nil_of_length_eq_zero h0
      subst h5
      replace hnil := fun W => Lib.run_eql_slice_nil (P := Tryz.prog) W 47 84 (some ad) 0 cap 0 0 Tryz.underlying47
      go_enter Tryz.func76, Tryz.ntmps76
      go_wp2_with (at_builtin; go_must (refine append_zero rfl _ _ _ rfl w.heap.size 84 2 Tryz.underlying47 (by kernel_rfl) w.heap.size rfl HO.out ad cap rfl ?_); intro w' hg ho')
      go_wp2_with fail
      go_ret
      exact ⟨_, rfl, ho', ((Below.refl _ _).alloc (Nat.le_refl _) _).grown hg (by simp) (fun q hq => by simp at hq; omega)⟩
    · have h1 : 0 < es.length := by omega
      clear h0
      go_enter Tryz.func76, Tryz.ntmps76
      go_wp2_with (at_builtin; go_must (refine append_sl rfl _ _ _ rfl w.heap.size 84 Tryz.underlying47 infoE rfl (by decide) rfl HO.out rfl ((HS.out.below ((Below.refl _ _).alloc (Nat.le_refl _) _))) h1 (fun u hu => ?_) (by omega) (by simp) ?_))
      · obtain ⟨x, _, hu⟩ := List.mem_flatMap.1 hu
        simp only [enC, List.mem_cons, List.not_mem_nil, or_false] at hu
        rcases hu with rfl | rfl <;> rfl
      · intro g cap' w' hown hg hlie _
        go_wp2_with fail
        go_ret
        exact ⟨_, rfl, hown, ((Below.refl _ _).alloc (Nat.le_refl _) _).grown hg (by simp) (fun q hq => by simp [Value.ownBlock] at hq; omega)⟩
end Go.Proofs.YtmlgmedapbeleaaGreatDoor
/-
  The walks of List, Info and Data.
-/
namespace Go.Proofs.YtmlgmedapbeleaaGreatDoor
open Go.RowKit

section
variable {w : World} {B db mb : Nat} {ns : List Nd} {ps : List Pl} {used : Int} {n : Nd} {p : Pl}
theorem DatAt.conv {v : Value} {d : ByteArray} (h : DatAt w v d) : (convert 46 9 v).run Tryz.prog w = .ok (.string d) w := by
  rcases h with ⟨rfl, h0⟩ | ⟨b, cap, rfl, hb⟩
  · have e : d = ⟨#[]⟩ := by
      rw [← S_L d, List.eq_nil_of_length_eq_zero (show (L d).length = 0 by rw [L_size]; exact h0)]; rfl
    rw [e]
    exact run_convert_bytes_nil w _ _ Tryz.underlying46 Tryz.underlying5 _ _ _ Tryz.underlying9
  · have hB : BytesAt w b (L d) := fun j hj => by
      rw [L_size] at hj
      have hc : w.cell? ⟨b, j, none⟩ = (bytesRow d cap)[j]? := by simp [World.cell?, hb]
      have hz : d.size ≤ (bytesRow d cap).size := by
        rw [bytesRow, Array.size_append, Array.size_map]
        exact Nat.le_add_right _ _
      refine ⟨?_, ?_⟩
      · rw [hc, bytesRow_at d cap j hj]
        have hj' : j < d.data.toList.length := by rw [Array.length_toList]; exact hj
        have e : (L d).getD j 0 = d.data[j] := by
          show d.data.toList.getD j 0 = _
          rw [List.getD, List.getElem?_eq_getElem hj'] <;> rfl
        rw [e] <;> rfl
      · have : ¬ (bytesRow d cap).size ≤ j := by omega
        simp [World.frozen?, hb, this]
    rw [run_convK _ _ _ Tryz.underlying46 Tryz.underlying5 Tryz.underlying9, hB.bytes (L_size d)]
    show Result.ok (Value.string (S (L d))) w = _
    rw [S_L]

set_option maxRecDepth 100000 in
theorem data_any (h : Dk w B db mb ns ps used) {i : Nat} (hn : ns[i]? = some n) (hp : ps[i]? = some p) (hk : n.k ≠ 2) (hl : ns.length ≤ 100) :
    Calls Tryz.prog 34 #[.pointer (some ⟨db, 0, none⟩), .int .i64 ((i : Int) + 1)] w fun e w' => e = .returned (.tuple #[.string n.d, .int .i64 0]) ∧ Below w.heap.size w w' := by
  have hr := h.lookup hp hl
  have k0 := h.node i n p hn hp
  have b0 : w.cell? ⟨db, 0, none⟩ = some (.map (some mb)) := h.box.cell 0
  have c0 : w.cell? ⟨p.b, 0, none⟩ = some (.int .i64 n.k) := k0.box.cell 0
  have c4 : w.cell? ⟨p.b, 4, none⟩ = some p.v := k0.box.cell 4
  have hv := k0.dat.conv
  have hkb : (n.k == 2) = false := by simpa using hk
  clear h k0 hn hp hl hk
  go_enter Tryz.func34, Tryz.ntmps34
  go_wp2_with fail
  go_ret2
  exact ⟨rfl, Below.refl _ _⟩

set_option maxRecDepth 100000 in
theorem dlist_any (h : Dk w B db mb ns ps used) {i : Nat} (hn : ns[i]? = some n) (hp : ps[i]? = some p) (h30 : n.e.length ≤ 100) :
    Calls Tryz.prog 48 #[.pointer (some ⟨p.b, 5, none⟩)] w fun e w' => ∃ v', e = .returned v' ∧ w'.ownsRow w.heap.size 84 2 v' n.e.length (n.e.flatMap enC) ∧ Below w.heap.size w w' := by
  have k0 := h.node i n p hn hp
  have c5 : w.cell? ⟨p.b, 5, none⟩ = some p.r := k0.box.cell 5
  have CC := Lib.hid (clone_any n.e p.r w (Sl.of_own k0.row) h30)
  clear h hn hp k0 h30
  go_enter Tryz.func48, Tryz.ntmps48
  go_wp2_with fail
  refine CC.out.mono ?_
  rintro e w1 ⟨v', rfl, hs, hb⟩
  go_wp2_with fail
  go_ret
  exact ⟨_, rfl, hs, hb⟩

set_option maxRecDepth 100000 in
theorem list_any (h : Dk w B db mb ns ps used) {i : Nat} (hn : ns[i]? = some n) (hp : ps[i]? = some p) (hk : n.k = 2) (hl : ns.length ≤ 100) (h30 : n.e.length ≤ 100) :
    Calls Tryz.prog 31 #[.pointer (some ⟨db, 0, none⟩), .int .i64 ((i : Int) + 1)] w fun e w' => ∃ v', e = .returned (.tuple #[v', .int .i64 0]) ∧ w'.ownsRow w.heap.size 84 2 v' n.e.length (n.e.flatMap enC) ∧ Below w.heap.size w w' := by
  have CF := Lib.hid (folder_any h hn hp hk hl)
  have CL : Hid (∀ W, Below w.heap.size w W → Calls Tryz.prog 48 #[.pointer (some ⟨p.b, 5, none⟩)] W fun e w' => ∃ v', e = .returned v' ∧ w'.ownsRow W.heap.size 84 2 v' n.e.length (n.e.flatMap enC) ∧ Below W.heap.size W w') := Lib.hid fun W hW => dlist_any (h.below hW) hn hp h30
  rw [ptrV] at CF
  clear h hn hp hk hl h30
  go_enter Tryz.func31, Tryz.ntmps31
  go_wp2_with fail
  refine CF.out.mono ?_
  rintro e w1 ⟨rfl, hb1⟩
  have HB1 := Lib.hid hb1
  clear hb1
  go_wp2_with fail
  refine (CL.out _ HB1.out).mono ?_
  rintro e w2 ⟨v', rfl, hs, hb⟩
  go_wp2_with fail
  go_ret2
  exact ⟨_, rfl, own_from hs HB1.out.size, HB1.out.trans (hb.mono HB1.out.size)⟩

/-- A node that isn't there. -/
theorem list_none (h : Dk w B db mb ns ps used) {t : Int} (ht : (ps.length : Int) < t) (h1 : 1 ≤ t ∧ t ≤ 1000) :
    Calls Tryz.prog 31 #[.pointer (some ⟨db, 0, none⟩), .int .i64 t] w fun e w' => e = .returned (.tuple #[.slice none 0 0, .int .i64 12]) ∧ Below w.heap.size w w' := by
  have hr : (Instr.lookup 42 (.map (some mb)) (.int .i64 t) false).run Tryz.prog w = .ok (.pointer none) w := by
    have := h.map.look (T := 42) (e := 45) Tryz.underlying42 (z := .pointer none) (by kernel_rfl) t (by simp [Lit.wf, IntKind.min, IntKind.max, IntKind.bits, IntKind.signed]; omega)
    rw [nodeM_none ht] at this
    exact this
  have b0 : w.cell? ⟨db, 0, none⟩ = some (.map (some mb)) := h.box.cell 0
  have CF : Hid (Calls Tryz.prog 27 #[.pointer (some ⟨db, 0, none⟩), .int .i64 t] w fun e w' => e = .returned (.tuple #[.pointer none, .int .i64 12]) ∧ Below w.heap.size w w') := Lib.hid (by
    clear h ht h1
    go_enter Tryz.func27, Tryz.ntmps27
    go_wp2_with fail
    go_ret2
    exact ⟨rfl, Below.refl _ _⟩)
  clear h ht h1 b0 hr
  go_enter Tryz.func31, Tryz.ntmps31
  go_wp2_with fail
  refine CF.out.mono ?_
  rintro e w1 ⟨rfl, hb1⟩
  go_wp2_with fail
  go_ret2
  exact ⟨rfl, hb1⟩

set_option maxHeartbeats 1000000 in
set_option maxRecDepth 100000 in
theorem info_any (h : Dk w B db mb ns ps used) {i : Nat} (hn : ns[i]? = some n) (hp : ps[i]? = some p) (hl : ns.length ≤ 100) :
    Calls Tryz.prog 33 #[.pointer (some ⟨db, 0, none⟩), .int .i64 ((i : Int) + 1)] w fun e w' => ∃ z : Int, e = .returned (.tuple #[.agg #[.int .i64 n.k, .int .i64 n.m, .int .i64 n.n, .int .i64 n.h, .int .i64 z], .int .i64 0]) ∧ Below w.heap.size w w' := by
  have k0 := h.node i n p hn hp
  obtain ⟨va, vn, vc, hpv⟩ : ∃ va vn vc, p.v = .slice va vn vc := by
    rcases k0.dat with ⟨e, _⟩ | ⟨_, _, e, _⟩ <;> exact ⟨_, _, _, e⟩
  obtain ⟨ra, rc, hpr⟩ := own_shape k0.row
  have hdb := h.box.lt
  have hpb := k0.box.lt
  have hr : Hid (∀ W, Below w.heap.size w W → (Instr.lookup 42 (.map (some mb)) (.int .i64 ((i : Int) + 1)) false).run Tryz.prog W = .ok (.pointer (some ⟨p.b, 0, none⟩)) W) := Lib.hid fun W hW => (h.below hW).lookup hp hl
  have HH := Lib.hid h
  have HN := Lib.hid hn
  have HP := Lib.hid hp
  have hba : Below w.heap.size w (World.alloc w (.cells #[.int .i64 0, .int .i64 0, .int .i64 0, .int .i64 0, .int .i64 0] 87)) := (Below.refl _ _).alloc (Nat.le_refl _) _
  have hr1 := hr.out _ hba
  have k1 := ((h.below hba).node i n p hn hp).box
  have b0 := (h.below hba).box.cell 0
  have c0 := k1.cell 0
  have c1 := k1.cell 1
  have c2 := k1.cell 2
  have c3 := k1.cell 3
  have c4 := k1.cell 4
  have c5 := k1.cell 5
  simp [ndC] at b0 c0 c1 c2 c3 c4 c5
  rw [hpv] at c4
  rw [hpr] at c5
  have CL : Hid (∀ W, Below w.heap.size w W → Calls Tryz.prog 51 #[.pointer (some ⟨p.b, 5, none⟩)] W fun e w' => e = .returned (.int .i64 (n.e.length : Int)) ∧ W = w') := Lib.hid fun W hW => by
    have c5' : W.cell? ⟨p.b, 5, none⟩ = some (.slice ra n.e.length rc) := by rw [((HH.out.below hW).node i n p HN.out HP.out).box.cell 5, ← hpr]; rfl
    clear hr1 k1 b0 c0 c1 c2 c3 c4 c5 k0
    go_enter Tryz.func51, Tryz.ntmps51
    go_wp2_with fail
    go_ret
    exact ⟨rfl, rfl⟩
  have q0 : ∀ cs, (World.alloc w (.cells cs 87)).cell? ⟨p.b, 0, none⟩ = some (.int .i64 n.k) := fun cs => (((Below.refl _ _).alloc (Nat.le_refl _) (.cells cs _)).cell (p := ⟨p.b, 0, none⟩) hpb).trans (k0.box.cell 0)
  have q1 : ∀ cs, (World.alloc w (.cells cs 87)).cell? ⟨p.b, 1, none⟩ = some (.int .i64 n.m) := fun cs => (((Below.refl _ _).alloc (Nat.le_refl _) (.cells cs _)).cell (p := ⟨p.b, 1, none⟩) hpb).trans (k0.box.cell 1)
  have q2 : ∀ cs, (World.alloc w (.cells cs 87)).cell? ⟨p.b, 2, none⟩ = some (.int .i64 n.n) := fun cs => (((Below.refl _ _).alloc (Nat.le_refl _) (.cells cs _)).cell (p := ⟨p.b, 2, none⟩) hpb).trans (k0.box.cell 2)
  have q3 : ∀ cs, (World.alloc w (.cells cs 87)).cell? ⟨p.b, 3, none⟩ = some (.int .i64 n.h) := fun cs => (((Below.refl _ _).alloc (Nat.le_refl _) (.cells cs _)).cell (p := ⟨p.b, 3, none⟩) hpb).trans (k0.box.cell 3)
  clear h hn hp hl k0 k1
  by_cases hk : n.k = 2
  · rw [hk] at c0 q0 ⊢
    clear hr
    go_enter Tryz.func33, Tryz.ntmps33
    go_wp2_with fail
    refine (CL.out _ hba).mono ?_
    rintro e w1 ⟨rfl, rfl⟩
    go_wp2_with fail
    go_region_held3 (fun W' => W'.cell? ⟨p.b, 0, none⟩ = some (.int .i64 2) ∧ W'.cell? ⟨p.b, 1, none⟩ = some (.int .i64 n.m) ∧ W'.cell? ⟨p.b, 2, none⟩ = some (.int .i64 n.n) ∧ W'.cell? ⟨p.b, 3, none⟩ = some (.int .i64 n.h)) (first | exact ⟨c0, c1, c2, c3⟩ | exact ⟨q0 _, q1 _, q2 _, q3 _⟩ | go_keep) (fail)
    go_wp2_with fail
    refine bodyPost_ret (v := .tuple #[.agg #[.int .i64 2, .int .i64 n.m, .int .i64 n.n, .int .i64 n.h, .int .i64 n.e.length], .int .i64 0]) (by simp [results, Tryz.results33, go_sem]) rfl ?_
    exact ⟨_, rfl, Below.drew ((Below.refl _ _).alloc (Nat.le_refl _) _)⟩
  · have hkb : (n.k == 2) = false := by simpa using hk
    clear hr
    go_enter Tryz.func33, Tryz.ntmps33
    go_wp2_with fail
    go_region_held3 (fun W' => W'.cell? ⟨p.b, 0, none⟩ = some (.int .i64 n.k) ∧ W'.cell? ⟨p.b, 1, none⟩ = some (.int .i64 n.m) ∧ W'.cell? ⟨p.b, 2, none⟩ = some (.int .i64 n.n) ∧ W'.cell? ⟨p.b, 3, none⟩ = some (.int .i64 n.h)) (first | exact ⟨c0, c1, c2, c3⟩ | exact ⟨q0 _, q1 _, q2 _, q3 _⟩ | go_keep) (fail)
    go_wp2_with fail
    refine bodyPost_ret (v := .tuple #[.agg #[.int .i64 n.k, .int .i64 n.m, .int .i64 n.n, .int .i64 n.h, .int .i64 vn], .int .i64 0]) (by simp [results, Tryz.results33, go_sem]) rfl ?_
    exact ⟨_, rfl, Below.drew ((Below.refl _ _).alloc (Nat.le_refl _) _)⟩
end
end Go.Proofs.YtmlgmedapbeleaaGreatDoor
/-
  append to a slice of the call's own, at a step of a region that draws its order.
-/
namespace Go.Proofs.YtmlgmedapbeleaaGreatDoor
open Go.RowKit

section
variable {w : World} {size : Nat}
/-- The same at a step of a region that draws its order. -/
theorem step_append_sl {P : Program} {ops : Array Oper} {o : Oper} {a : Act} {K : Act → World → Prop} {Q : Exit → Act → World → Prop} {E : Prop} (hgd : o.guard = none) (s x : Operand) (t : TypeId)
    (ho : o.op = .call { callee := .builtin .append, args := #[s, x], argTypes := #[t, t] }) (base : Nat) (e : TypeId) {z : Value} {bytes : Nat} (ht : P.underlying t = some (.slice e))
    (hinfo : (P.info? e).map (fun i => (i.zero, i.size, i.bytes)) = some (some z, size, bytes)) (hzs : z.cells.size = size) (hsz : 0 < size)
    {v : Value} {n : Nat} {xs : List Value} (hs : a.eval s = v) (hown : w.ownsRow base e size v n xs) {vx : Value} {m : Nat} {news : List Value} {B : Nat} (hx : a.eval x = vx) (hsl : Sl w B size vx m news) (hne : 0 < m) (h1 : ∀ u ∈ news, u.oneCell' = true)
    (hlen : (n + m) * (bytes + 1) ≤ 140737488355328) (hbase : base ≤ w.heap.size)
    (h : ∀ g cap w', w'.ownsRow base e size (.slice (some ⟨g, 0, none⟩) (n + m) cap) (n + m) (xs ++ news) → w.grownBy w' v.ownBlock → (v.ownBlock = some g ∨ g = w.heap.size) → g < w'.heap.size → K (a.put o.dst (.slice (some ⟨g, 0, none⟩) (n + m) cap)) w') :
    if Region.wanted o (yielded ops a.tmps) = true then Oper.wp P o a w K Q else E := by
  obtain ⟨i0, hi, hz0, hz1, hz2⟩ := info_parts hinfo
  obtain ⟨k1, ax, cx, rfl, k3, k4, k5⟩ := hsl
  rcases k5 with k5 | ⟨b, off, rfl, kB, kc⟩
  · omega
  have hb1 : (n + m) * bytes ≤ 140737488355328 := Nat.le_trans (Nat.mul_le_mul_left _ (by omega)) hlen
  have hb2 : n + m ≤ 140737488355328 := Nat.le_trans (Nat.le_mul_of_pos_right _ (by omega)) hlen
  exact step_append_lies w hgd s x t ho base e i0 z size bytes ht hi hz0 hz1 hz2 hzs hsz v n xs hs hown ⟨b, off, none⟩ m cx news hx k1 (fun j u hj => by
    have hj' : j < m * size := by rw [← k1]; exact (List.getElem?_eq_some_iff.1 hj).1
    rw [addr_add, kc j hj', hj]) h1 hne (by unfold maxLen; omega) hb1 hbase _ rfl h
end
end Go.Proofs.YtmlgmedapbeleaaGreatDoor
/-
  The walk of scan: a directory's items, and what lies below them.
-/
namespace Go.Proofs.YtmlgmedapbeleaaGreatDoor
open Go.RowKit

/-- What is of another kind than the scanner's own blocks stays. -/
def Keep (w w' : World) : Prop :=
  ∀ (b : Nat) (cs : Array Value) (t : TypeId) (fr : Nat × Nat), w.heap[b]? = some (.cells cs t fr) → t ≠ 59 → t ≠ 34 → w'.heap[b]? = w.heap[b]?
theorem Keep.refl (w : World) : Keep w w := fun _ _ _ _ _ _ _ => rfl
theorem Keep.trans {w w1 w' : World} (h : Keep w w1) (k : Keep w1 w') : Keep w w' := fun b cs t fr hb h1 h2 => by
  have e := h b cs t fr hb h1 h2
  exact (k b cs t fr (e.trans hb) h1 h2).trans e
theorem Keep.below {w w' : World} (h : Below w.heap.size w w') : Keep w w' := fun _ _ _ _ hb _ _ => h.block _ (Array.getElem?_eq_some_iff.1 hb).1
theorem Keep.set {w : World} {g i : Nat} {t : TypeId} {cs : Array Value} (h : Blk w g t cs) (ht : t = 59 ∨ t = 34) (x : Value) : Keep w (w.setCell ⟨g, i, none⟩ x) := fun b cs' t' fr hb h1 h2 => Below.heap_setCell _ _ _ _ (fun e => by
  have e' : b = g := e
  subst e'
  rw [Blk, hb] at h
  cases h
  rcases ht with ht | ht <;> first | exact h1 ht | exact h2 ht)
theorem Keep.row {w w' : World} {base size : Nat} {v : Value} {c : Nat} {xs : List Value} (h : w.ownsRow base 34 size v c xs) (hg : w.grownBy w' v.ownBlock) : Keep w w' := fun b cs t fr hb h1 h2 => hg.block b (Array.getElem?_eq_some_iff.1 hb).1 fun e => by
  rcases h.2 with ⟨h4, _⟩ | ⟨b', cap, cur, h4, _, h5, _⟩
  · rw [h4] at e; simp [Value.ownBlock] at e
  · rw [h4] at e
    obtain rfl : b = b' := by simpa [Value.ownBlock] using e
    rw [h5] at hb
    simp only [Option.some.injEq, Obj.cells.injEq] at hb
    exact h2 hb.2.1.symm
theorem Blk.keep {w w' : World} {g : Nat} {t : TypeId} {cs : Array Value} (h : Blk w g t cs) (k : Keep w w') (h1 : t ≠ 59) (h2 : t ≠ 34) : Blk w' g t cs := (k g cs t _ h h1 h2).trans h

theorem blk_after (w : World) (t : TypeId) (cs : Array Value) {w' : World} (h : Below (w.alloc (.cells cs t)).drew.heap.size (w.alloc (.cells cs t)).drew w') : Blk w' w.heap.size t cs :=
  (h.block w.heap.size (by simp)).trans (heap_alloc_new w _)
def blk1 (l : List It) (d : Nat) (x : It) : List It := x :: (if x.k = 2 then ord l d (L x.p) else [])
/-- The scanner's box, and what it has found. -/
structure Sn (w0 : World) (sg db : Nat) (w : World) (v : Value) (out : List It) : Prop where
  low : Below w0.heap.size w0 w
  box : Blk w sg 59 #[.pointer (some ⟨db, 0, none⟩), v]
  row : w.ownsRow w0.heap.size 34 5 v out.length (out.flatMap itC)

section
variable {w0 : World} {B db mb : Nat} {ns : List Nd} {ps : List Pl} {used : Int} {l : List It}
theorem Sn.below {w w' : World} {sg : Nat} {v : Value} {out : List It} (h : Sn w0 sg db w v out) (hb : Below w.heap.size w w') : Sn w0 sg db w' v out :=
  ⟨h.low.trans (hb.mono h.low.size), h.box.below hb h.box.lt, own_below h.row hb⟩
theorem infoItm : (Tryz.prog.info? 34).map (fun i => (i.zero, i.size, i.bytes)) = some (some (.agg #[.string ⟨#[]⟩, .int .i64 0, .int .i64 0, .string ⟨#[]⟩, .string ⟨#[]⟩]), 5, 64) := by kernel_rfl

theorem Sn.grown {w w1 w2 : World} {sg : Nat} {v : Value} {out : List It} (h : Sn w0 sg db w v out) (hb : Below w.heap.size w w1) (hg : w1.grownBy w2 v.ownBlock) : Blk w2 sg 59 #[.pointer (some ⟨db, 0, none⟩), v] :=
  (h.box.below hb h.box.lt).grown hg (own_ne_blk h.row h.box (by decide))
/-- One item more. -/
theorem Sn.push {w w1 w2 : World} {sg : Nat} {v u : Value} {out : List It} (h : Sn w0 sg db w v out) (hb : Below w.heap.size w w1) (hg : w1.grownBy w2 v.ownBlock) (hsg : w0.heap.size ≤ sg) {n : Nat} (hn : n = out.length + 1) (y : It)
    (hown : w2.ownsRow w0.heap.size 34 5 u n (out.flatMap itC ++ itC y)) : Sn w0 sg db (w2.setCell ⟨sg, 1, none⟩ u) u (out ++ [y]) ∧ Keep w (w2.setCell ⟨sg, 1, none⟩ u) := by
  subst hn
  have hbx := h.grown hb hg
  have hne := own_ne_blk hown hbx (by decide)
  refine ⟨⟨?_, ?_, ?_⟩, ?_⟩
  · refine (((h.low.trans (hb.mono h.low.size)).grown hg (Nat.le_trans h.low.size hb.size) (fun q hq => (own_size h.row hq).2)).setCell hsg _)
  · have := hbx.put 1 u
    simpa using this
  · have e1 : (out ++ [y]).length = out.length + 1 := by simp
    have e2 : (out ++ [y]).flatMap itC = out.flatMap itC ++ itC y := by rw [List.flatMap_append]; simp
    rw [e1, e2]
    exact own_keepT hown fun b cs fr hb' _ => Below.heap_setCell _ _ _ _ (fun e => hne (by rw [hb']; exact congrArg some e))
  · have hr1 := own_below h.row hb
    exact ((Keep.below hb).trans (Keep.row hr1 hg)).trans (Keep.set hbx (.inl rfl) _)
theorem Sn.far {w : World} {sg : Nat} {v : Value} {out : List It} (h : Sn w0 sg db w v out) {g i : Nat} {cs : Array Value} (hg : Blk w g 34 cs) (hl : w0.heap.size ≤ g) (hne : v.ownBlock ≠ some g) (x : Value) : Sn w0 sg db (w.setCell ⟨g, i, none⟩ x) v out :=
  ⟨h.low.setCell hl _, h.box.far (blk_ne h.box hg (by decide)) _, own_keepT h.row fun b cs fr hb' _ => Below.heap_setCell _ _ _ _ (fun e => hne (by rw [hb']; exact congrArg some e))⟩
theorem take_blk {ks : List It} {k d : Nat} {x : It} (hx : ks[k]? = some x) : (ks.take (k + 1)).flatMap (blk1 l d) = (ks.take k).flatMap (blk1 l d) ++ blk1 l d x := by
  have e : ks.take (k + 1) = ks.take k ++ [x] := by
    rw [List.take_add_one, hx]; rfl
  rw [e, List.flatMap_append]
  simp

set_option maxHeartbeats 4000000 in
set_option maxRecDepth 100000 in
theorem scan_any (h : okTo l l.length) (h30 : l.length ≤ 30) (hI : Inv l l.length ns) (hD : Dk w0 B db mb ns ps used) (sg : Nat) (hsg : w0.heap.size ≤ sg) :
    ∀ (d : Nat) (t : List UInt8), (t = [] ∨ ∃ (k : Nat) (o : It), l[k]? = some o ∧ L o.p = t ∧ o.k = 2) → 5000 ≤ d + t.length → ∀ (W : World) (v : Value) (out : List It), Sn w0 sg db W v out → out.length + (ord l d t).length ≤ 4000 →
    Calls Tryz.prog 17 #[.pointer (some ⟨sg, 0, none⟩), .int .i64 ((dirI l t : Int) + 1), .string (S t)] W fun e w' => e = .returned (.int .i64 0) ∧ ∃ v', Sn w0 sg db w' v' (out ++ (ord l d t).map (sc l)) ∧ Keep W w' := by
  intro d
  induction d with
  | zero =>
    intro t ht hd
    exfalso
    rcases ht with rfl | ⟨k, o, ho, rfl, _⟩
    · simp at hd
    · have := path_len h ho
      rw [L_size] at hd
      omega
  | succ d ih =>
    intro t ht hd W v out hS hlen
    have htz : t.length ≤ 4095 := by
      rcases ht with rfl | ⟨k, o, ho, rfl, _⟩
      · simp
      · rw [L_size]; exact path_len h ho
    have hnl : ns.length ≤ 31 := by rw [hI.len]; have := fs_len (l := l) l.length; omega
    obtain ⟨n, hn, hn2, hne⟩ : ∃ n, ns[dirI l t]? = some n ∧ n.k = 2 ∧ n.e = kidsE l l.length t := by
      rcases ht with rfl | ⟨k, o, ho, rfl, ho2⟩
      · obtain ⟨n, h1, h2, h3, _⟩ := hI.root
        exact ⟨n, by rw [dirI, if_pos rfl]; exact h1, h2, h3⟩
      · obtain ⟨n, h1, h2, _, _, h5⟩ := node_of h hI ho
        obtain ⟨e1, e2⟩ := dir_num h ho ho2
        rw [e2] at h5
        exact ⟨n, by rw [e1]; exact h1, by omega, h5⟩
    obtain ⟨p, hp⟩ := hD.pl hn
    have hel : n.e.length ≤ 30 := by rw [hne]; exact Nat.le_trans (kidsE_len _ _ _) h30
    obtain ⟨ks, hks⟩ : ∃ ks, ks = kidsL l t := ⟨_, rfl⟩
    have hek : n.e = ks.map fun x => (nameS x.p, (nid l (fstL x) : Int) + 2) := by rw [hne, kids_map, hks]
    have CL : Hid (Calls Tryz.prog 31 #[.pointer (some ⟨db, 0, none⟩), .int .i64 ((dirI l t : Int) + 1)] W fun e w' => ∃ v', e = .returned (.tuple #[v', .int .i64 0]) ∧ w'.ownsRow W.heap.size 84 2 v' ks.length (n.e.flatMap enC) ∧ Below W.heap.size W w') := Lib.hid (by
      have := list_any (hD.below hS.low) hn hp hn2 (by omega) (by omega)
      rw [show ks.length = n.e.length by rw [hek, List.length_map]]
      exact this)
    have c0 : W.cell? ⟨sg, 0, none⟩ = some (.pointer (some ⟨db, 0, none⟩)) := hS.box.cell 0
    have hkl : ks.length ≤ 30 := by rw [hek, List.length_map] at hel; exact hel
    have hord : ord l (d + 1) t = ks.flatMap (blk1 l d) := by rw [ord, hks]; rfl
    rw [hord] at hlen ⊢
    have HKS : Hid (∀ (k : Nat) (x : It), ks[k]? = some x → ∃ j, l[j]? = some x ∧ upL (L x.p) = t) := Lib.hid fun k x hx => by
      have hm := List.mem_of_getElem? hx
      rw [hks, kidsL, List.mem_filter, decide_eq_true_eq] at hm
      obtain ⟨j, hj⟩ := List.getElem?_of_mem hm.1
      exact ⟨j, hj, hm.2⟩
    have HS := Lib.hid hS
    have HLEN := Lib.hid hlen
    have HEK := Lib.hid hek
    have IH := Lib.hid ih
    have HH := Lib.hid h
    have HI := Lib.hid hI
    have HD := Lib.hid hD
    have HTZ := Lib.hid htz
    have HNL := Lib.hid hnl
    have HDT := Lib.hid hd
    obtain ⟨N, hN⟩ : ∃ N, N = ks.length := ⟨_, rfl⟩
    rw [← hN] at CL hkl
    have HN := Lib.hid hN
    clear hS hlen hek ih h hI hD htz hnl hd hn hn2 hne hp hel hks hord ht hN
    go_enter Tryz.func17, Tryz.ntmps17
    go_wp2_with fail
    refine CL.out.mono ?_
    rintro e w1 ⟨v1, rfl, hrow, hb1⟩
    obtain ⟨va, vc, rfl⟩ := own_shape hrow
    have HR1 := Lib.hid hrow
    have HS1 := Lib.hid (HS.out.below hb1)
    have HB1 := Lib.hid hb1
    clear hrow hb1 c0
    go_wp2_with fail
    go_loopw [30] (fun i wr => ∃ k : Nat, k ≤ N ∧ i = .int .i64 k ∧ ∃ v', Sn w0 sg db wr v' (out ++ ((ks.take k).flatMap (blk1 l d)).map (sc l)) ∧ Keep w1 wr) (fun i _ => N - (intOf i).toNat)
    case atStart => exact ⟨0, Nat.zero_le _, rfl, v, by simpa using HS1.out, Keep.refl _⟩
    case round =>
      obtain ⟨k, hk, rfl, v', hS, hK⟩ := hrel
      obtain ⟨wo, rfl⟩ : ∃ wo : World, wo = wr := ⟨_, rfl⟩
      by_cases hlt : k < N
      · obtain ⟨x, hx⟩ : ∃ x, ks[k]? = some x := ⟨_, List.getElem?_eq_getElem (by rw [← HN.out]; exact hlt)⟩
        obtain ⟨j, hj, hup⟩ := HKS.out k x hx
        have hrow := own_keepT HR1.out fun b cs fr hb hc => hK b cs _ fr hc (by decide) (by decide)
        obtain ⟨a2, c2, b, off, he2, _, _, hidx, hbl, hcell⟩ := (Sl.of_own hrow).open (P := Tryz.prog) 47 84 Tryz.underlying47 (by kernel_rfl)
        simp only [Value.slice.injEq, true_and] at he2
        obtain ⟨rfl, rfl⟩ := he2
        have hi1 := fun W => hidx k W hlt
        have hbb : b < wo.heap.size := by rcases hbl with h | h <;> omega
        have hxe : n.e[k]? = some (nameS x.p, (nid l (fstL x) : Int) + 2) := by rw [HEK.out, List.getElem?_map, hx]; rfl
        have e0 : wo.cell? ⟨b, off + k * 2, none⟩ = some (.string (nameS x.p)) := by
          have := hcell (k * 2) (by omega)
          rw [this]
          have := flat_get enC 2 enC_len n.e k _ hxe 0 (by omega)
          rw [Nat.add_zero] at this
          rw [this]; rfl
        have e1 : wo.cell? ⟨b, off + k * 2 + 1, none⟩ = some (.int .i64 ((nid l (fstL x) : Int) + 2)) := by
          have := hcell (k * 2 + 1) (by omega)
          rw [Nat.add_assoc, this, flat_get enC 2 enC_len n.e k _ hxe 1 (by omega)]; rfl
        obtain ⟨nd, d1, d2, d3, d4, d5⟩ := node_of HH.out HI.out hj
        obtain ⟨q, hq⟩ := HD.out.pl d1
        have hnum : (((nid l (fstL x) + 1 : Nat) : Int) + 1) = (nid l (fstL x) : Int) + 2 := by omega
        have hpl := path_len HH.out hj
        have hnm := name_len (ok_fit HH.out hj).plain
        have CJ : Hid (∀ W, Calls Tryz.prog 32 #[.string (S t), .string (nameS x.p)] W fun e w' => e = .returned (.string x.p) ∧ w' = W) := Lib.hid fun W => by
          have hz1 : (S t).size ≤ 100000 := by rw [S_size]; have := HTZ.out; omega
          have hz2 : (nameS x.p).size ≤ 100000 := by omega
          have := join_any (S t) (nameS x.p) W hz1 hz2
          have he : S (joinL t (L (nameS x.p))) = x.p := by rw [← hup]; exact join_path HH.out hj
          rw [L_S, he] at this
          exact this
        have CI : Hid (∀ W, Below w0.heap.size w0 W → Calls Tryz.prog 33 #[.pointer (some ⟨db, 0, none⟩), .int .i64 ((nid l (fstL x) : Int) + 2)] W fun e w' => ∃ zn zh z : Int, e = .returned (.tuple #[.agg #[.int .i64 x.k, .int .i64 x.m, .int .i64 zn, .int .i64 zh, .int .i64 z], .int .i64 0]) ∧ Below W.heap.size W w') := Lib.hid fun W hW => by
          have := info_any (HD.out.below hW) d1 hq (by have := HNL.out; omega)
          rw [hnum, d2, d3] at this
          exact this.mono fun e w' ⟨z, h1, h2⟩ => ⟨_, _, z, h1, h2⟩
        have CD : x.k ≠ 2 → Hid (∀ W, Below w0.heap.size w0 W → Calls Tryz.prog 34 #[.pointer (some ⟨db, 0, none⟩), .int .i64 ((nid l (fstL x) : Int) + 2)] W fun e w' => e = .returned (.tuple #[.string (dat l x), .int .i64 0]) ∧ Below W.heap.size W w') := fun h2 => Lib.hid fun W hW => by
          have := data_any (HD.out.below hW) d1 hq (by rw [d2]; exact h2) (by have := HNL.out; omega)
          rw [hnum, d4] at this
          exact this
        obtain ⟨o1, ho1⟩ : ∃ o1, o1 = out ++ ((ks.take k).flatMap (blk1 l d)).map (sc l) := ⟨_, rfl⟩
        rw [← ho1] at hS
        obtain ⟨oa, oc, rfl⟩ := own_shape hS.row
        have hol : o1.length ≤ 4000 := by
          have h1 := HLEN.out
          have h2 : (ks.flatMap (blk1 l d)).length = ((ks.take k).flatMap (blk1 l d)).length + ((ks.drop k).flatMap (blk1 l d)).length := by
            rw [← List.length_append, ← List.flatMap_append, List.take_append_drop]
          rw [ho1, List.length_append, List.length_map]
          omega
        have hd1 : decide ((4095 : Int) < (x.p.size : Int)) = false := decide_eq_false (by omega)
        have hd2 : decide ((4096 : Int) ≤ (o1.length : Int)) = false := decide_eq_false (by omega)
        have c0 : wo.cell? ⟨sg, 0, none⟩ = some (.pointer (some ⟨db, 0, none⟩)) := hS.box.cell 0
        have hsgl := hS.box.lt
        have HSO := Lib.hid hS
        have HKO := Lib.hid hK
        have HO1 := Lib.hid ho1
        have HX := Lib.hid hx
        have HJ := Lib.hid hj
        have HUP := Lib.hid hup
        have HOL := Lib.hid hol
        obtain ⟨nn, hnn⟩ : ∃ nn : Nat, nn = nid l (fstL x) + 2 := ⟨_, rfl⟩
        rw [show (nid l (fstL x) : Int) + 2 = (nn : Int) by rw [hnn]; omega] at CI CD e1
        have HNN := Lib.hid hnn
        clear hS hK ho1 hx hj hup hrow hidx hbl hcell hxe d1 d2 d3 d4 d5 hq hnum hpl hnm hol hnn
        go_wp2_with fail
        refine (CJ.out _).mono ?_
        rintro e w' ⟨rfl, rfl⟩
        obtain ⟨W2, hW2⟩ : ∃ W2, W2 = World.alloc wo (.cells #[.string (nameS x.p), .int .i64 (nn : Int)] 84) := ⟨_, rfl⟩
        rw [← hW2]
        have HB2 : Hid (Below wo.heap.size wo W2) := Lib.hid (by rw [hW2]; exact (Below.refl _ _).alloc (Nat.le_refl _) _)
        have HE2 : Hid (Blk W2 wo.heap.size 84 #[.string (nameS x.p), .int .i64 (nn : Int)]) := Lib.hid (by rw [hW2]; exact Blk.new _ _ _)
        have HS2 := Lib.hid (HSO.out.below HB2.out)
        have q0 : W2.cell? ⟨sg, 0, none⟩ = some (.pointer (some ⟨db, 0, none⟩)) := HS2.out.box.cell 0
        have q1 : W2.cell? ⟨wo.heap.size, 1, none⟩ = some (.int .i64 (nn : Int)) := HE2.out.cell 1
        have CI2 : Hid (∀ W, Below W2.heap.size W2 W → Calls Tryz.prog 33 #[.pointer (some ⟨db, 0, none⟩), .int .i64 (nn : Int)] W fun e w' => ∃ zn zh z : Int, e = .returned (.tuple #[.agg #[.int .i64 x.k, .int .i64 x.m, .int .i64 zn, .int .i64 zh, .int .i64 z], .int .i64 0]) ∧ Below W.heap.size W w') := Lib.hid fun W hW => CI.out W (HS2.out.below hW).low
        have hsg2 : sg < W2.heap.size := HS2.out.box.lt
        have hen2 : wo.heap.size < W2.heap.size := HE2.out.lt
        have hn1 : sg ≠ W2.heap.size := by omega
        have hn2 : W2.heap.size ≠ sg := by omega
        have hn3 : wo.heap.size ≠ W2.heap.size := by omega
        have hn4 : W2.heap.size ≠ wo.heap.size := by omega
        clear hW2 c0 e0 e1 hi1
        go_upto_region 8 with fail
        go_cut [12, 13] (fun s12 s13 Wc => ∃ (g12 : Nat) (zn zh z : Int), s12 = .pointer (some ⟨g12, 0, none⟩) ∧ s13 = .int .i64 0 ∧ Blk Wc g12 87 #[.int .i64 x.k, .int .i64 x.m, .int .i64 zn, .int .i64 zh, .int .i64 z] ∧ Below W2.heap.size W2 Wc)
        case first =>
          go_region_held3 (fun W' => W'.cell? ⟨sg, 0, none⟩ = some (.pointer (some ⟨db, 0, none⟩)) ∧ W'.cell? ⟨wo.heap.size, 1, none⟩ = some (.int .i64 (nn : Int))) (go_keep)
            ((go_at_call 33; (refine (CI2.out _ (by repeat' (first | (with_reducible assumption) | (with_reducible exact Below.refl _ _) | (with_reducible refine below_drewN ?_ _) | (with_reducible refine below_bytes ?_ ?_ _) | (with_reducible refine Below.alloc ?_ ?_ _) | (with_reducible refine Below.drew ?_) | (with_reducible refine Below.setCell ?_ ?_ _) | go_size))).mono ?_); rintro e W3 ⟨zn, zh, z, rfl, hb3⟩; have hb4 : Below W2.heap.size W2 W3 := Below.trans (by repeat' (first | (with_reducible assumption) | (with_reducible exact Below.refl _ _) | (with_reducible refine below_drewN ?_ _) | (with_reducible refine below_bytes ?_ ?_ _) | (with_reducible refine Below.alloc ?_ ?_ _) | (with_reducible refine Below.drew ?_) | (with_reducible refine Below.setCell ?_ ?_ _) | go_size)) (hb3.mono (by first | exact Nat.le_refl _ | simp)); have r0 : W3.cell? ⟨sg, 0, none⟩ = some (.pointer (some ⟨db, 0, none⟩)) := (hb4.cell (p := ⟨sg, 0, none⟩) hsg2).trans q0; have r1 : W3.cell? ⟨wo.heap.size, 1, none⟩ = some (.int .i64 (nn : Int)) := (hb4.cell (p := ⟨wo.heap.size, 1, none⟩) hen2).trans q1; have HB3 := Lib.hid hb4; clear hb4; (first | (have HNO : Below (World.drew W2).heap.size (World.drew W2) W3 := hb3; clear HNO) | (have zb := blk_after _ _ _ hb3; have z0 := zb.cell 0; have z1 := zb.cell 1; have z2 := zb.cell 2; have z3 := zb.cell 3; have z4 := zb.cell 4; have f0 := zb.free 0; have f1 := zb.free 1; have f2 := zb.free 2; have f3 := zb.free 3; have f4 := zb.free 4; simp at z0 z1 z2 z3 z4; have HZ := Lib.hid zb; clear zb)); clear hb3))
          · go_wp2_with fail
            go_meet
            exact ⟨W3.heap.size, zn, zh, z, rfl, rfl, Blk.new _ _ _, HB3.out.alloc HB3.out.size _⟩
          · go_wp2_with fail
            go_meet
            refine ⟨W2.heap.size, zn, zh, z, rfl, rfl, ?_, ((((HB3.out.setCell (Nat.le_refl _) _).setCell (Nat.le_refl _) _).setCell (Nat.le_refl _) _).setCell (Nat.le_refl _) _).setCell (Nat.le_refl _) _⟩
            have := ((((HZ.out.put 0 (.int .i64 x.k)).put 1 (.int .i64 x.m)).put 2 (.int .i64 zn)).put 3 (.int .i64 zh)).put 4 (.int .i64 z)
            simpa using this
        case rest =>
          obtain ⟨g12, zn, zh, z, rfl, rfl, hbi, hbc⟩ := hcut
          obtain ⟨wb, rfl⟩ : ∃ wb : World, wb = wc := ⟨_, rfl⟩
          have HSc := Lib.hid (HS2.out.below hbc)
          have HEc := Lib.hid (HE2.out.below hbc hen2)
          have HIc := Lib.hid hbi
          have HKc := Lib.hid ((HKO.out.trans (Keep.below HB2.out)).trans (Keep.below hbc))
          have s1 : wb.cell? ⟨sg, 1, none⟩ = some (.slice oa o1.length oc) := HSc.out.box.cell 1
          have i0 : wb.cell? ⟨g12, 0, none⟩ = some (.int .i64 x.k) := hbi.cell 0
          have i1 : wb.cell? ⟨g12, 1, none⟩ = some (.int .i64 x.m) := hbi.cell 1
          have HLX : Hid (o1.length + 1 + (if x.k = 2 then ord l d (L x.p) else []).length ≤ 4000) := Lib.hid (by
            have h1 := HLEN.out
            have h2 : (ks.flatMap (blk1 l d)).length = ((ks.take (k + 1)).flatMap (blk1 l d)).length + ((ks.drop (k + 1)).flatMap (blk1 l d)).length := by
              rw [← List.length_append, ← List.flatMap_append, List.take_append_drop]
            rw [take_blk HX.out, List.length_append, blk1, List.length_cons] at h2
            rw [HO1.out, List.length_append, List.length_map]
            omega)
          have HEND : Hid (out ++ ((ks.take (k + 1)).flatMap (blk1 l d)).map (sc l) = o1 ++ [sc l x] ++ (if x.k = 2 then ord l d (L x.p) else []).map (sc l)) := Lib.hid (by
            rw [take_blk HX.out, HO1.out, blk1, List.map_append]
            simp)
          have IHX : Hid (x.k = 2 → ∀ (W : World) (v : Value), Sn w0 sg db W v (o1 ++ [sc l x]) → Calls Tryz.prog 17 #[.pointer (some ⟨sg, 0, none⟩), .int .i64 (nn : Int), .string x.p] W fun e w' => e = .returned (.int .i64 0) ∧ ∃ v', Sn w0 sg db w' v' (o1 ++ [sc l x] ++ (ord l d (L x.p)).map (sc l)) ∧ Keep W w') := Lib.hid fun h2 W v hS => by
            obtain ⟨e1, e2⟩ := dir_num HH.out HJ.out h2
            have hpp := (plain_first (ok_fit HH.out HJ.out).plain).1
            have hlx := HLX.out
            rw [if_pos h2] at hlx
            have hlt2 := upL_lt hpp
            rw [HUP.out] at hlt2
            have hdd : 5000 ≤ d + (L x.p).length := by have := HDT.out; omega
            have := IH.out (L x.p) (.inr ⟨j, x, HJ.out, rfl, h2⟩) hdd W v (o1 ++ [sc l x]) hS (by rw [List.length_append]; exact hlx)
            rw [e1, S_L, show ((nid l (fstL x) + 1 : Nat) : Int) + 1 = (nn : Int) by rw [HNN.out]; omega] at this
            exact this
          have l12 : g12 < wb.heap.size := HIc.out.lt
          have lsg : sg < wb.heap.size := HSc.out.box.lt
          have len : wo.heap.size < wb.heap.size := HEc.out.lt
          clear hbi hbc q0 q1 hsg2 hen2 hn1 hn2 hn3 hn4 HB2
          by_cases hk2 : x.k = 2
          · rw [hk2] at i0
            have HK2 := Lib.hid hk2
            go_wp2_with fail
            obtain ⟨W6, hW6⟩ : ∃ W6, W6 = World.alloc wb (.cells #[.string x.p, .int .i64 2, .int .i64 x.m, .string ⟨#[]⟩, .string ⟨#[]⟩] 34) := ⟨_, rfl⟩
            rw [← hW6]
            have hb6 : Below wb.heap.size wb W6 := by rw [hW6]; exact (Below.refl _ _).alloc (Nat.le_refl _) _
            have HBz : Hid (Blk W6 wb.heap.size 34 #[.string x.p, .int .i64 2, .int .i64 x.m, .string ⟨#[]⟩, .string ⟨#[]⟩]) := Lib.hid (by rw [hW6]; exact Blk.new _ _ _)
            have HSz := Lib.hid (HSc.out.below hb6)
            have HEz := Lib.hid (HEc.out.below hb6 HEc.out.lt)
            have HIz := Lib.hid (HIc.out.below hb6 HIc.out.lt)
            have HKz := Lib.hid (HKc.out.trans (Keep.below hb6))
            have y1 : W6.cell? ⟨sg, 1, none⟩ = some (.slice oa o1.length oc) := HSz.out.box.cell 1
            have t0 : W6.cell? ⟨wb.heap.size, 0, none⟩ = some (.string x.p) := HBz.out.cell 0
            have t1 : W6.cell? ⟨wb.heap.size, 1, none⟩ = some (.int .i64 2) := HBz.out.cell 1
            have t2 : W6.cell? ⟨wb.heap.size, 2, none⟩ = some (.int .i64 x.m) := HBz.out.cell 2
            have t3 : W6.cell? ⟨wb.heap.size, 3, none⟩ = some (.string ⟨#[]⟩) := HBz.out.cell 3
            have t4 : W6.cell? ⟨wb.heap.size, 4, none⟩ = some (.string ⟨#[]⟩) := HBz.out.cell 4
            have lsg6 : sg < W6.heap.size := HSz.out.box.lt
            have lit6 : wb.heap.size < W6.heap.size := HBz.out.lt
            clear hb6 hW6 i0 i1 s1 hk2
            have HZZ : Hid ((⟨x.p, 2, x.m, ⟨#[]⟩, ⟨#[]⟩⟩ : It) = sc l x) := Lib.hid (by rw [sc, if_pos HK2.out, if_neg (by rw [HK2.out]; decide), HK2.out])
            go_upto_region 18 with fail
            go_cut [] (fun Wc => ∃ v1, Sn w0 sg db Wc v1 (o1 ++ [sc l x]) ∧ Keep W6 Wc)
            case first =>
              go_region_law (refine step_append_sl rfl _ _ 23 rfl w0.heap.size 34 Tryz.underlying23 infoItm rfl (by decide) (v := .slice oa o1.length oc) (n := o1.length) (xs := o1.flatMap itC) rfl (by first | exact (own_below HSz.out.row (Below.drew (Below.refl _ _))).alloc _ | exact own_below (HSz.out.row.alloc _) (Below.drew (Below.refl _ _))) (m := 1) (news := itC (⟨x.p, 2, x.m, ⟨#[]⟩, ⟨#[]⟩⟩ : It)) rfl (sl_made_at _ #[.string x.p, .int .i64 2, .int .i64 x.m, .string ⟨#[]⟩, .string ⟨#[]⟩] _ 1 5 rfl (by unfold maxLen; omega) (by simp)) (by omega) (by intro u hu; simp [itC] at hu; rcases hu with rfl | rfl | rfl | rfl | rfl <;> rfl) (by have := HOL.out; omega) (by have := HSz.out.low.size; simp; omega) ?_; intro g1 cap1 w2 hown hgrow hlie hglt; have hbx := HSz.out.grown (by repeat' (first | (with_reducible assumption) | (with_reducible exact Below.refl _ _) | (with_reducible refine below_drewN ?_ _) | (with_reducible refine below_bytes ?_ ?_ _) | (with_reducible refine Below.alloc ?_ ?_ _) | (with_reducible refine Below.drew ?_) | (with_reducible refine Below.setCell ?_ ?_ _) | go_size)) hgrow; have HPU := Lib.hid (HSz.out.push (by repeat' (first | (with_reducible assumption) | (with_reducible exact Below.refl _ _) | (with_reducible refine below_drewN ?_ _) | (with_reducible refine below_bytes ?_ ?_ _) | (with_reducible refine Below.alloc ?_ ?_ _) | (with_reducible refine Below.drew ?_) | (with_reducible refine Below.setCell ?_ ?_ _) | go_size)) hgrow hsg rfl (⟨x.p, 2, x.m, ⟨#[]⟩, ⟨#[]⟩⟩ : It) hown); have u1 := hbx.cell 1; have uf := hbx.free 1; simp at u1; clear hbx hown hgrow hlie hglt)
              all_goals (go_wp2_with fail; go_meet; rw [← HZZ.out]; exact ⟨_, HPU.out.1, HPU.out.2⟩)
            case rest =>
            obtain ⟨v1, hS8, hK8⟩ := hcut
            have HS8 := Lib.hid hS8
            have HK8 := Lib.hid (HKz.out.trans hK8)
            have j0 := (HIz.out.keep hK8 (by decide) (by decide)).cell 0
            have j1 := (HEz.out.keep hK8 (by decide) (by decide)).cell 1
            simp at j0 j1
            clear hS8 hK8 y1 t0 t1 t2 t3 t4 lsg6 lit6 l12 lsg len
            rw [HK2.out] at j0
            go_wp2_with fail
            refine (IHX.out HK2.out _ _ HS8.out).mono ?_
            rintro e W9 ⟨rfl, v9, hS9, hK9⟩
            have HS9 := Lib.hid hS9
            have HK9 := Lib.hid (HK8.out.trans hK9)
            clear hS9 hK9 j0 j1
            go_wp2_with fail
            go_roundw
            case rel =>
              exact ⟨k + 1, by omega, by go_num, _, by rw [HEND.out, if_pos HK2.out]; exact HS9.out, HK9.out⟩
            case measure => simp [intOf]; omega
          · have hkb : (x.k == 2) = false := by simpa using hk2
            have hkn : (x.k != 2) = true := by simpa using hk2
            have HK2 := Lib.hid hk2
            have CDx := CD hk2
            clear hk2
            go_upto_region 15 with fail
            obtain ⟨W4, hW4⟩ : ∃ W4, W4 = World.alloc wb (.cells #[.string x.p, .int .i64 x.k, .int .i64 x.m, .string ⟨#[]⟩, .string ⟨#[]⟩] 34) := ⟨_, rfl⟩
            rw [← hW4]
            have hb4 : Below wb.heap.size wb W4 := by rw [hW4]; exact (Below.refl _ _).alloc (Nat.le_refl _) _
            have HB4 : Hid (Blk W4 wb.heap.size 34 #[.string x.p, .int .i64 x.k, .int .i64 x.m, .string ⟨#[]⟩, .string ⟨#[]⟩]) := Lib.hid (by rw [hW4]; exact Blk.new _ _ _)
            have HS4 := Lib.hid (HSc.out.below hb4)
            have HE4 := Lib.hid (HEc.out.below hb4 HEc.out.lt)
            have HI4 := Lib.hid (HIc.out.below hb4 HIc.out.lt)
            have HK4 := Lib.hid (HKc.out.trans (Keep.below hb4))
            have q0 : W4.cell? ⟨sg, 0, none⟩ = some (.pointer (some ⟨db, 0, none⟩)) := HS4.out.box.cell 0
            have q1 : W4.cell? ⟨wo.heap.size, 1, none⟩ = some (.int .i64 (nn : Int)) := HE4.out.cell 1
            have CD4 : Hid (∀ W, Below W4.heap.size W4 W → Calls Tryz.prog 34 #[.pointer (some ⟨db, 0, none⟩), .int .i64 (nn : Int)] W fun e w' => e = .returned (.tuple #[.string (dat l x), .int .i64 0]) ∧ Below W.heap.size W w') := Lib.hid fun W hW => CDx.out W (HS4.out.below hW).low
            have lsg4 : sg < W4.heap.size := HS4.out.box.lt
            have len4 : wo.heap.size < W4.heap.size := HE4.out.lt
            have hm1 : sg ≠ wb.heap.size := by omega
            have hm2 : wo.heap.size ≠ wb.heap.size := by omega
            have hm3 : wb.heap.size ≠ sg := by omega
            have hm4 : wb.heap.size ≠ wo.heap.size := by omega
            have HLO : Hid (w0.heap.size ≤ wb.heap.size) := Lib.hid HSc.out.low.size
            have HOW : Hid ((Value.slice oa o1.length oc).ownBlock ≠ some wb.heap.size) := Lib.hid fun e => by have := (own_size HSc.out.row e).1; omega
            obtain ⟨dt, hdt⟩ : ∃ dt, dt = dat l x := ⟨_, rfl⟩
            rw [← hdt] at CD4
            have HDTX := Lib.hid hdt
            clear hb4 hW4 i0 i1 s1 CDx hdt
            go_cut [] (fun Wc => Blk Wc wb.heap.size 34 #[.string x.p, .int .i64 x.k, .int .i64 x.m, .string dt, .string ⟨#[]⟩] ∧ Sn w0 sg db Wc (.slice oa o1.length oc) o1 ∧ Keep W4 Wc)
            case first =>
              go_region_held3 (fun W' => W'.cell? ⟨sg, 0, none⟩ = some (.pointer (some ⟨db, 0, none⟩)) ∧ W'.cell? ⟨wo.heap.size, 1, none⟩ = some (.int .i64 (nn : Int))) (go_keep)
                ((go_at_call 34; (refine (CD4.out _ (by repeat' (first | (with_reducible assumption) | (with_reducible exact Below.refl _ _) | (with_reducible refine below_drewN ?_ _) | (with_reducible refine below_bytes ?_ ?_ _) | (with_reducible refine Below.alloc ?_ ?_ _) | (with_reducible refine Below.drew ?_) | (with_reducible refine Below.setCell ?_ ?_ _) | go_size))).mono ?_); rintro e W5 ⟨rfl, hb5⟩; have hb6 : Below W4.heap.size W4 W5 := Below.trans (by repeat' (first | (with_reducible assumption) | (with_reducible exact Below.refl _ _) | (with_reducible refine below_drewN ?_ _) | (with_reducible refine below_bytes ?_ ?_ _) | (with_reducible refine Below.alloc ?_ ?_ _) | (with_reducible refine Below.drew ?_) | (with_reducible refine Below.setCell ?_ ?_ _) | go_size)) hb5; have r0 : W5.cell? ⟨sg, 0, none⟩ = some (.pointer (some ⟨db, 0, none⟩)) := (hb6.cell (p := ⟨sg, 0, none⟩) lsg4).trans q0; have r1 : W5.cell? ⟨wo.heap.size, 1, none⟩ = some (.int .i64 (nn : Int)) := (hb6.cell (p := ⟨wo.heap.size, 1, none⟩) len4).trans q1; have HZ := Lib.hid (HB4.out.below hb6 HB4.out.lt); have z3 := HZ.out.cell 3; have f3 := HZ.out.free 3; simp at z3; have HB5 := Lib.hid hb6; clear hb5 hb6))
              go_wp2_with fail
              go_meet
              have hS5 := HS4.out.below HB5.out
              refine ⟨?_, hS5.far HZ.out HLO.out HOW.out _, (Keep.below HB5.out).trans (Keep.set HZ.out (.inr rfl) _)⟩
              have := HZ.out.put 3 (.string dt)
              simpa using this
            case rest =>
            obtain ⟨hb8, hS8, hK8⟩ := hcut
            have HBd := Lib.hid hb8
            have HSd := Lib.hid hS8
            have HEd := Lib.hid (HE4.out.keep hK8 (by decide) (by decide))
            have HId := Lib.hid (HI4.out.keep hK8 (by decide) (by decide))
            have HKd := Lib.hid (HK4.out.trans hK8)
            have i0 := HId.out.cell 0
            simp at i0
            clear hb8 hS8 hK8 q0 q1 lsg4 len4 l12 lsg len
            by_cases hk1 : x.k = 1
            · rw [hk1] at i0 HBd
              have HK1 := Lib.hid hk1
              have CT : Hid (∀ W, Calls Tryz.prog 35 #[.int .i64 (nn : Int)] W fun e w' => e = .returned (.string (itoaS nn)) ∧ W = w') := Lib.hid fun W => (Tryz.strconv_Itoa_small nn (by
                have h1 : nid l (fstL x) ≤ (fs l).length := List.findIdx_le_length
                have h2 : (fs l).length ≤ l.length := List.length_filter_le _ _
                rw [HNN.out]; omega) W).mono fun e w' h => ⟨h.1, h.2.symm⟩
              have e1 := HEd.out.cell 1
              have t4 := HBd.out.cell 4
              have f4 := HBd.out.free 4
              simp at e1 t4
              clear hk1
              go_wp2_with fail
              refine (CT.out _).mono ?_
              rintro e w' ⟨rfl, rfl⟩
              go_upto_region 18 with fail
              obtain ⟨W6, hW6⟩ : ∃ W6, W6 = World.setCell wc ⟨wb.heap.size, 4, none⟩ (.string (itoaS nn)) := ⟨_, rfl⟩
              rw [← hW6]
              have HZ6 : Hid (Blk W6 wb.heap.size 34 #[.string x.p, .int .i64 1, .int .i64 x.m, .string dt, .string (itoaS nn)]) := Lib.hid (by
                rw [hW6]
                have := HBd.out.put 4 (.string (itoaS nn))
                simpa using this)
              have HS6 : Hid (Sn w0 sg db W6 (.slice oa o1.length oc) o1) := Lib.hid (by rw [hW6]; exact HSd.out.far HBd.out HLO.out HOW.out _)
              have hk6 : Keep wc W6 := by rw [hW6]; exact Keep.set HBd.out (.inr rfl) _
              have HI6 := Lib.hid (HId.out.keep hk6 (by decide) (by decide))
              have HE6 := Lib.hid (HEd.out.keep hk6 (by decide) (by decide))
              have HK6 := Lib.hid (HKd.out.trans hk6)
              clear hW6 hk6 e1 t4 f4 i0
              have HSz := HS6
              have HIz := HI6
              have HEz := HE6
              have HKz := HK6
              have HBz := HZ6
              have y1 : W6.cell? ⟨sg, 1, none⟩ = some (.slice oa o1.length oc) := HSz.out.box.cell 1
              have t0 : W6.cell? ⟨wb.heap.size, 0, none⟩ = some (.string x.p) := HBz.out.cell 0
              have t1 : W6.cell? ⟨wb.heap.size, 1, none⟩ = some (.int .i64 (1)) := HBz.out.cell 1
              have t2 : W6.cell? ⟨wb.heap.size, 2, none⟩ = some (.int .i64 x.m) := HBz.out.cell 2
              have t3 : W6.cell? ⟨wb.heap.size, 3, none⟩ = some (.string dt) := HBz.out.cell 3
              have t4 : W6.cell? ⟨wb.heap.size, 4, none⟩ = some (.string (itoaS nn)) := HBz.out.cell 4
              have lsg6 : sg < W6.heap.size := HSz.out.box.lt
              have lit6 : wb.heap.size < W6.heap.size := HBz.out.lt
              have l12 : g12 < W6.heap.size := HIz.out.lt
              have lsg := lsg6
              have len := lit6
              have HZZ : Hid ((⟨x.p, 1, x.m, dt, itoaS nn⟩ : It) = sc l x) := Lib.hid (by rw [sc, if_neg HK2.out, if_pos HK1.out, HK1.out, HDTX.out, noB, HNN.out])
              go_upto_region 18 with fail
              go_cut [] (fun Wc => ∃ v1, Sn w0 sg db Wc v1 (o1 ++ [sc l x]) ∧ Keep W6 Wc)
              case first =>
                go_region_law (refine step_append_sl rfl _ _ 23 rfl w0.heap.size 34 Tryz.underlying23 infoItm rfl (by decide) (v := .slice oa o1.length oc) (n := o1.length) (xs := o1.flatMap itC) rfl (by first | exact (own_below HSz.out.row (Below.drew (Below.refl _ _))).alloc _ | exact own_below (HSz.out.row.alloc _) (Below.drew (Below.refl _ _))) (m := 1) (news := itC (⟨x.p, 1, x.m, dt, itoaS nn⟩ : It)) rfl (sl_made_at _ #[.string x.p, .int .i64 1, .int .i64 x.m, .string dt, .string (itoaS nn)] _ 1 5 rfl (by unfold maxLen; omega) (by simp)) (by omega) (by intro u hu; simp [itC] at hu; rcases hu with rfl | rfl | rfl | rfl | rfl <;> rfl) (by have := HOL.out; omega) (by have := HSz.out.low.size; simp; omega) ?_; intro g1 cap1 w2 hown hgrow hlie hglt; have hbx := HSz.out.grown (by repeat' (first | (with_reducible assumption) | (with_reducible exact Below.refl _ _) | (with_reducible refine below_drewN ?_ _) | (with_reducible refine below_bytes ?_ ?_ _) | (with_reducible refine Below.alloc ?_ ?_ _) | (with_reducible refine Below.drew ?_) | (with_reducible refine Below.setCell ?_ ?_ _) | go_size)) hgrow; have HPU := Lib.hid (HSz.out.push (by repeat' (first | (with_reducible assumption) | (with_reducible exact Below.refl _ _) | (with_reducible refine below_drewN ?_ _) | (with_reducible refine below_bytes ?_ ?_ _) | (with_reducible refine Below.alloc ?_ ?_ _) | (with_reducible refine Below.drew ?_) | (with_reducible refine Below.setCell ?_ ?_ _) | go_size)) hgrow hsg rfl (⟨x.p, 1, x.m, dt, itoaS nn⟩ : It) hown); have u1 := hbx.cell 1; have uf := hbx.free 1; simp at u1; clear hbx hown hgrow hlie hglt)
                all_goals (go_wp2_with fail; go_meet; rw [← HZZ.out]; exact ⟨_, HPU.out.1, HPU.out.2⟩)
              case rest =>
              obtain ⟨v1, hS8, hK8⟩ := hcut
              have HS8 := Lib.hid hS8
              have HK8 := Lib.hid (HKz.out.trans hK8)
              have j0 := (HIz.out.keep hK8 (by decide) (by decide)).cell 0
              have j1 := (HEz.out.keep hK8 (by decide) (by decide)).cell 1
              simp at j0 j1
              clear hS8 hK8 y1 t0 t1 t2 t3 t4 lsg6 lit6 l12 lsg len
              rw [HK1.out] at j0
              go_wp2_with fail
              go_roundw
              case rel =>
                have he := HEND.out
                rw [if_neg HK2.out] at he
                exact ⟨k + 1, by omega, by go_num, _, by rw [he]; simpa using HS8.out, HK8.out⟩
              case measure => simp [intOf]; omega
            · have hk1b : (x.k == 1) = false := by simpa using hk1
              have HK1 := Lib.hid hk1
              clear hk1
              go_upto_region 18 with fail
              obtain ⟨W6, hW6⟩ : ∃ W6, W6 = wc := ⟨_, rfl⟩
              rw [← hW6] at HBd HSd HEd HId HKd ⊢
              clear hW6 i0
              have HSz := HSd
              have HIz := HId
              have HEz := HEd
              have HKz := HKd
              have HBz := HBd
              have y1 : W6.cell? ⟨sg, 1, none⟩ = some (.slice oa o1.length oc) := HSz.out.box.cell 1
              have t0 : W6.cell? ⟨wb.heap.size, 0, none⟩ = some (.string x.p) := HBz.out.cell 0
              have t1 : W6.cell? ⟨wb.heap.size, 1, none⟩ = some (.int .i64 (x.k)) := HBz.out.cell 1
              have t2 : W6.cell? ⟨wb.heap.size, 2, none⟩ = some (.int .i64 x.m) := HBz.out.cell 2
              have t3 : W6.cell? ⟨wb.heap.size, 3, none⟩ = some (.string dt) := HBz.out.cell 3
              have t4 : W6.cell? ⟨wb.heap.size, 4, none⟩ = some (.string ⟨#[]⟩) := HBz.out.cell 4
              have lsg6 : sg < W6.heap.size := HSz.out.box.lt
              have lit6 : wb.heap.size < W6.heap.size := HBz.out.lt
              have l12 : g12 < W6.heap.size := HIz.out.lt
              have lsg := lsg6
              have len := lit6
              have HZZ : Hid ((⟨x.p, x.k, x.m, dt, ⟨#[]⟩⟩ : It) = sc l x) := Lib.hid (by rw [sc, if_neg HK2.out, if_neg HK1.out, HDTX.out])
              go_upto_region 18 with fail
              go_cut [] (fun Wc => ∃ v1, Sn w0 sg db Wc v1 (o1 ++ [sc l x]) ∧ Keep W6 Wc)
              case first =>
                go_region_law (refine step_append_sl rfl _ _ 23 rfl w0.heap.size 34 Tryz.underlying23 infoItm rfl (by decide) (v := .slice oa o1.length oc) (n := o1.length) (xs := o1.flatMap itC) rfl (by first | exact (own_below HSz.out.row (Below.drew (Below.refl _ _))).alloc _ | exact own_below (HSz.out.row.alloc _) (Below.drew (Below.refl _ _))) (m := 1) (news := itC (⟨x.p, x.k, x.m, dt, ⟨#[]⟩⟩ : It)) rfl (sl_made_at _ #[.string x.p, .int .i64 x.k, .int .i64 x.m, .string dt, .string ⟨#[]⟩] _ 1 5 rfl (by unfold maxLen; omega) (by simp)) (by omega) (by intro u hu; simp [itC] at hu; rcases hu with rfl | rfl | rfl | rfl | rfl <;> rfl) (by have := HOL.out; omega) (by have := HSz.out.low.size; simp; omega) ?_; intro g1 cap1 w2 hown hgrow hlie hglt; have hbx := HSz.out.grown (by repeat' (first | (with_reducible assumption) | (with_reducible exact Below.refl _ _) | (with_reducible refine below_drewN ?_ _) | (with_reducible refine below_bytes ?_ ?_ _) | (with_reducible refine Below.alloc ?_ ?_ _) | (with_reducible refine Below.drew ?_) | (with_reducible refine Below.setCell ?_ ?_ _) | go_size)) hgrow; have HPU := Lib.hid (HSz.out.push (by repeat' (first | (with_reducible assumption) | (with_reducible exact Below.refl _ _) | (with_reducible refine below_drewN ?_ _) | (with_reducible refine below_bytes ?_ ?_ _) | (with_reducible refine Below.alloc ?_ ?_ _) | (with_reducible refine Below.drew ?_) | (with_reducible refine Below.setCell ?_ ?_ _) | go_size)) hgrow hsg rfl (⟨x.p, x.k, x.m, dt, ⟨#[]⟩⟩ : It) hown); have u1 := hbx.cell 1; have uf := hbx.free 1; simp at u1; clear hbx hown hgrow hlie hglt)
                all_goals (go_wp2_with fail; go_meet; rw [← HZZ.out]; exact ⟨_, HPU.out.1, HPU.out.2⟩)
              case rest =>
              obtain ⟨v1, hS8, hK8⟩ := hcut
              have HS8 := Lib.hid hS8
              have HK8 := Lib.hid (HKz.out.trans hK8)
              have j0 := (HIz.out.keep hK8 (by decide) (by decide)).cell 0
              have j1 := (HEz.out.keep hK8 (by decide) (by decide)).cell 1
              simp at j0 j1
              clear hS8 hK8 y1 t0 t1 t2 t3 t4 lsg6 lit6 l12 lsg len
              go_wp2_with fail
              go_roundw
              case rel =>
                have he := HEND.out
                rw [if_neg HK2.out] at he
                exact ⟨k + 1, by omega, by go_num, _, by rw [he]; simpa using HS8.out, HK8.out⟩
              case measure => simp [intOf]; omega
      · obtain rfl : k = N := by omega
        rw [List.take_of_length_le (by rw [HN.out]; exact Nat.le_refl _)] at hS
        have HSS := Lib.hid hS
        have HK := Lib.hid hK
        clear hS hK
        go_wp2_with fail
        go_ret
        exact ⟨rfl, _, HSS.out, (Keep.below HB1.out).trans HK.out⟩
end
end Go.Proofs.YtmlgmedapbeleaaGreatDoor
namespace Go.Proofs
open Go.Shelf
def Tryz.sortI_ren : Go.Shelf.Ren := ⟨fun | 14 => 36 | 20 => 53 | 21 => 54 | 22 => 55 | 23 => 56 | 24 => 57 | 25 => 58 | 26 => 59 | 27 => 60 | 46 => 79 | 47 => 80 | 48 => 81 | 49 => 82 | 50 => 83 | 15 => 37 | 57 => 94 | 28 => 61 | 29 => 62 | n => n, fun | 24 => 34 | 22 => 22 | 3 => 3 | 25 => 63 | 4 => 4 | 0 => 0 | 46 => 108 | 45 => 107 | 50 => 65 | 66 => 127 | 39 => 95 | 55 => 116 | 70 => 131 | 76 => 138 | 77 => 38 | 53 => 114 | 5 => 5 | 9 => 9 | n => n, fun | n => n⟩
theorem Tryz.sortI : Go.Proofs.SlLaysF0.n14 Tryz.prog Tryz.sortI_ren := {
  mixed := by kernel_rfl
  f14 := ⟨Tryz.f36.name, by decide, Tryz.func36.trans (congrArg some (by kernel_rfl))⟩
  f15 := Tryz.func37.trans (congrArg some (by kernel_rfl))
  f20 := ⟨Tryz.f53.name, by decide, Tryz.func53.trans (congrArg some (by kernel_rfl))⟩
  f21 := ⟨Tryz.f54.name, by decide, Tryz.func54.trans (congrArg some (by kernel_rfl))⟩
  f22 := ⟨Tryz.f55.name, by decide, Tryz.func55.trans (congrArg some (by kernel_rfl))⟩
  f23 := ⟨Tryz.f56.name, by decide, Tryz.func56.trans (congrArg some (by kernel_rfl))⟩
  f24 := ⟨Tryz.f57.name, by decide, Tryz.func57.trans (congrArg some (by kernel_rfl))⟩
  f25 := ⟨Tryz.f58.name, by decide, Tryz.func58.trans (congrArg some (by kernel_rfl))⟩
  f26 := ⟨Tryz.f59.name, by decide, Tryz.func59.trans (congrArg some (by kernel_rfl))⟩
  f27 := ⟨Tryz.f60.name, by decide, Tryz.func60.trans (congrArg some (by kernel_rfl))⟩
  f28 := Tryz.func61.trans (congrArg some (by kernel_rfl))
  f29 := Tryz.func62.trans (congrArg some (by kernel_rfl))
  f46 := ⟨Tryz.f79.name, by decide, Tryz.func79.trans (congrArg some (by kernel_rfl))⟩
  f47 := Tryz.func80.trans (congrArg some (by kernel_rfl))
  f48 := Tryz.func81.trans (congrArg some (by kernel_rfl))
  f49 := ⟨Tryz.f82.name, by decide, Tryz.func82.trans (congrArg some (by kernel_rfl))⟩
  f50 := ⟨Tryz.f83.name, by decide, Tryz.func83.trans (congrArg some (by kernel_rfl))⟩
  f57 := ⟨Tryz.f94.name, by decide, Tryz.func94.trans (congrArg some (by kernel_rfl))⟩
  t0 := Tryz.underlying0
  a0 := Tryz.isAgg0
  z0 := Tryz.sizeOf0
  v0 := Tryz.zeroValue0
  t3 := Tryz.underlying3
  a3 := Tryz.isAgg3
  z3 := Tryz.sizeOf3
  v3 := Tryz.zeroValue3
  t4 := Tryz.underlying4
  a4 := Tryz.isAgg4
  z4 := Tryz.sizeOf4
  v4 := Tryz.zeroValue4
  t5 := Tryz.underlying5
  a5 := Tryz.isAgg5
  z5 := Tryz.sizeOf5
  v5 := Tryz.zeroValue5
  t9 := Tryz.underlying9
  a9 := Tryz.isAgg9
  z9 := Tryz.sizeOf9
  v9 := Tryz.zeroValue9
  t22 := Tryz.underlying22
  a22 := Tryz.isAgg22
  z22 := Tryz.sizeOf22
  v22 := Tryz.zeroValue22
  t25 := Tryz.underlying63
  a25 := Tryz.isAgg63
  z25 := Tryz.sizeOf63
  v25 := Tryz.zeroValue63
  t39 := Tryz.underlying95
  a39 := Tryz.isAgg95
  z39 := Tryz.sizeOf95
  v39 := Tryz.zeroValue95
  t45 := Tryz.underlying107
  a45 := Tryz.isAgg107
  z45 := Tryz.sizeOf107
  v45 := Tryz.zeroValue107
  t46 := Tryz.underlying108
  a46 := Tryz.isAgg108
  z46 := Tryz.sizeOf108
  v46 := Tryz.zeroValue108
  t50 := Tryz.underlying65
  a50 := Tryz.isAgg65
  z50 := Tryz.sizeOf65
  v50 := Tryz.zeroValue65
  t53 := Tryz.underlying114
  a53 := Tryz.isAgg114
  z53 := Tryz.sizeOf114
  v53 := Tryz.zeroValue114
  t55 := Tryz.underlying116
  a55 := Tryz.isAgg116
  z55 := Tryz.sizeOf116
  v55 := Tryz.zeroValue116
  t66 := Tryz.underlying127
  a66 := Tryz.isAgg127
  z66 := Tryz.sizeOf127
  v66 := Tryz.zeroValue127
  t70 := Tryz.underlying131
  a70 := Tryz.isAgg131
  z70 := Tryz.sizeOf131
  v70 := Tryz.zeroValue131
  t76 := Tryz.underlying138
  a76 := Tryz.isAgg138
  z76 := Tryz.sizeOf138
  v76 := Tryz.zeroValue138
  t77 := Tryz.underlying38
  a77 := Tryz.isAgg38
  z77 := Tryz.sizeOf38
  v77 := Tryz.zeroValue38 }
end Go.Proofs
