/-
  The document's Split: the walk.
-/
import Derived.Test.YtlehofcgkmhgaaaF12
namespace Go.Proofs.Ytlehofcgkmhgaaa
open Go.RowKit

def RSplitPost (fs : List (List Sg)) (w : World) (e : Ending) (w' : World) : Prop := Below w.heap.size w w' ∧ ∃ v, e = .returned v ∧ ROut w' w.heap.size v fs
structure RIn (w wi : World) (vo : Value) (s : Rt) (vn : Value) (fv : List Rv) : Prop where
  rp : Rp wi w.heap.size vo vn fv s.now
  out : fv.map (·.1) = s.out
  bel : Below w.heap.size w wi
theorem RIn.lens {w wi : World} {vo : Value} {s : Rt} {vn : Value} {fv : List Rv} (h : RIn w wi vo s vn fv) : fv.length + s.now.length = cntR s := by
  have := congrArg List.length h.out
  rw [List.length_map] at this
  unfold cntR
  omega
theorem RIn.next {w wi w' : World} {vo : Value} {s : Rt} {vn : Value} {fv : List Rv} (h : RIn w wi vo s vn fv) (hb : Below wi.heap.size wi w') : RIn w w' vo s vn fv :=
  ⟨h.rp.below hb, h.out, h.bel.trans (hb.mono h.bel.size)⟩
theorem RIn.like {w wi : World} {vo : Value} {s s' : Rt} {vn : Value} {fv : List Rv} (h : RIn w wi vo s vn fv) (h1 : s'.out = s.out) (h2 : s'.now = s.now) : RIn w wi vo s' vn fv := by
  obtain ⟨a, b, c⟩ := h
  exact ⟨by rw [h2]; exact a, by rw [h1]; exact b, c⟩
/-- A byte has been put behind the others: what holds. -/
theorem RIn.byte {w wi w1 : World} {vo : Value} {s : Rt} {vn : Value} {fv : List Rv} (h : RIn w wi vo s vn fv) (o : Obj) (x : Sg) {g cap n : Nat} (hn : n = s.now.length) {xs : List Value} (hxs : xs = s.now.flatMap sC)
    (hown : w1.ownsRow (w.heap.size + 1) 68 2 (.slice (some ⟨g, 0, none⟩) (n + 1) cap) (n + 1) (xs ++ sC x)) (hg : (wi.alloc o).grownBy w1 vn.ownBlock) (hl : vn.ownBlock = some g ∨ g = (wi.alloc o).heap.size) (b d : Bool) :
    RIn w (w1.setCell ⟨w.heap.size, 0, none⟩ (.slice (some ⟨g, 0, none⟩) (n + 1) cap)) vo ⟨s.out, s.now ++ [x], b, d⟩ (.slice (some ⟨g, 0, none⟩) (n + 1) cap) fv := by
  subst hxs
  have hb := Below.alloc (Below.refl wi.heap.size wi) (Nat.le_refl _) o
  have hbs := h.bel.size
  refine ⟨(h.rp.below hb).turn (now' := s.now ++ [x]) ?_ hg (hl.imp (fun e => e.symm) (fun e => congrArg some e)), h.out, ?_⟩
  · rw [List.length_append, List.flatMap_append, ← hn]
    simpa using hown
  · exact ((h.bel.alloc hbs o).grown hg (by simp; omega) fun k hk => by have := (World.ownsRow.lt h.rp.own k hk).1; omega).setCell (Nat.le_refl _) _
theorem RIn.field {w wi w1 : World} {vo vo' : Value} {s : Rt} {vn : Value} {fv : List Rv} (h : RIn w wi vo s vn fv) (o : Obj) {n : Nat} (hn : n = fv.length)
    (hown : w1.ownsRow (w.heap.size + 1) 43 1 vo' (n + 1) (fv.map (·.2) ++ [vn])) (hg : (wi.alloc o).grownBy w1 vo.ownBlock) (b d : Bool) :
    RIn w (w1.setCell ⟨w.heap.size, 0, none⟩ (.slice none 0 0)) vo' ⟨s.out ++ [s.now], [], b, d⟩ (.slice none 0 0) (fv ++ [(s.now, vn)]) := by
  subst hn
  have hb := Below.alloc (Below.refl wi.heap.size wi) (Nat.le_refl _) o
  have hbs := h.bel.size
  refine ⟨(h.rp.below hb).push hown hg, by rw [List.map_append, h.out]; rfl, ?_⟩
  exact ((h.bel.alloc hbs o).grown hg (by simp; omega) fun k hk => by have := (World.ownsRow.lt h.rp.out k hk).1; omega).setCell (Nat.le_refl _) _
theorem RIn.last {w wi w1 : World} {vo vo' : Value} {s : Rt} {vn : Value} {fv : List Rv} (h : RIn w wi vo s vn fv) (o : Obj) {n : Nat} (hn : n = fv.length)
    (hown : w1.ownsRow (w.heap.size + 1) 43 1 vo' (n + 1) (fv.map (·.2) ++ [vn])) (hg : (wi.alloc o).grownBy w1 vo.ownBlock) : ROut w1 (w.heap.size + 1) vo' (s.out ++ [s.now]) ∧ Below w.heap.size w w1 := by
  subst hn
  have hb := Below.alloc (Below.refl wi.heap.size wi) (Nat.le_refl _) o
  have hbs := h.bel.size
  have h1 := (h.rp.below hb).last hown hg
  rw [h.out] at h1
  exact ⟨h1, (h.bel.alloc hbs o).grown hg (by simp; omega) fun k hk => by have := (World.ownsRow.lt h.rp.out k hk).1; omega⟩
/-- What stays of a block below where only a row has grown. -/
theorem blk_grown {W w2 : World} {g t : Nat} {cs : Array Value} {o : Obj} {row : Option Nat} (h : Blk W g t cs) (hgrow : (W.alloc o).grownBy w2 row) (hr : row ≠ some g) : Blk w2 g t cs := (h.alloc o).grown hgrow hr

set_option maxHeartbeats 8000000 in
set_option maxRecDepth 100000 in
theorem rsplit_any (ifs : ByteArray) (l : List In) (v : Value) (w : World) (hl : Sl w w.heap.size 4 v l.length (l.flatMap inC)) (hi : ifs.size ≤ 100000) (hc : (l.map wr1).sum ≤ 100000) :
    Calls Try.prog 10 #[v, .string ifs] w (RSplitPost (refSplit (L ifs) l) w) := by
  obtain ⟨n, hnl⟩ : ∃ n, n = l.length := ⟨_, rfl⟩
  rw [← hnl] at hl
  have hnm := hl.len
  unfold maxLen at hnm
  obtain ⟨a, cap, rfl⟩ : ∃ a cap, v = .slice a n cap := by
    obtain ⟨_, a, cap, h, _⟩ := hl
    exact ⟨a, cap, h⟩
  have HL := Lib.hid hl
  have HN := Lib.hid hnl
  have HC := Lib.hid hc
  have CI := Lib.hid (fun c W => (rin_any ifs c W hi).mono fun e w' h => (⟨h.1, h.2.symm⟩ : e = .returned (.bool (hasB (L ifs) c)) ∧ W = w'))
  have CW := Lib.hid (fun c W => (rwhite_any c W).mono fun e w' h => (⟨h.1, h.2.symm⟩ : e = .returned (.bool (isW c)) ∧ W = w'))
  clear hl hnl hc
  have HI0 : Hid (RIn w (w.alloc (.cells #[.slice none 0 0] 43)) (.slice none 0 0) Rt0 (.slice none 0 0) []) := Lib.hid
    ⟨⟨Blk.new w _ _, World.ownsRow_nil _ _ _ _, World.ownsRow_nil _ _ _ _, fun x hx => by simp at hx, fun x hx => by simp at hx⟩, rfl, Below.alloc (Below.refl _ _) (Nat.le_refl _) _⟩
  go_enter Try.func10, Try.ntmps10
  go_wp2_with fail
  go_loopw [5, 7, 8, 9] (fun vo op due i wr => ∃ k : Nat, k ≤ n ∧ i = .int .i64 k ∧ op = .bool (rK (L ifs) l k).op ∧ due = .bool (rK (L ifs) l k).due ∧ ∃ vn fv, RIn w wr vo (rK (L ifs) l k) vn fv) (fun _ _ _ i _ => n - (intOf i).toNat)
  case atStart => exact ⟨0, Nat.zero_le _, rfl, rfl, rfl, _, _, HI0.out⟩
  case round =>
    obtain ⟨k, hk, rfl, rfl, rfl, vn, fv, HI⟩ := hrel
    have hcn := rK_cnt (L ifs) l k
    obtain ⟨wo, rfl⟩ : ∃ wo : World, wo = wr := ⟨_, rfl⟩
    obtain ⟨m, hm⟩ : ∃ m, m = fv.length := ⟨_, rfl⟩
    have hlens := HI.lens
    have hm2 : m ≤ 100000 := by have := HC.out; omega
    obtain ⟨oa, oc, rfl⟩ := own_shape HI.rp.out
    rw [← hm] at HI ⊢
    have hz0 := HI.rp.blk.lt
    have z0 := HI.rp.blk.cell 0
    have y0 := HI.rp.blk.free 0
    simp at z0
    have HM := Lib.hid hm
    have HII := Lib.hid HI
    have HCN := Lib.hid hcn
    have HOUT : Hid (wo.ownsRow (w.heap.size + 1) 43 1 (.slice oa m oc) m (fv.map (·.2))) := Lib.hid (by have := HI.rp.out; rw [← hm] at this; exact this)
    clear hm hlens hcn
    obtain ⟨cur, hcur⟩ : ∃ cur, cur = rK (L ifs) l k := ⟨_, rfl⟩
    rw [← hcur] at HII HCN ⊢
    have HCUR := Lib.hid hcur
    obtain ⟨na, nc, hne⟩ := own_shape HI.rp.own
    rw [← hcur] at hne
    clear hcur HI
    subst hne
    obtain ⟨out, now, op, due⟩ := cur
    simp only at HII HCN z0 ⊢
    by_cases hlt : k < n
    · obtain ⟨x, hx⟩ : ∃ x, l[k]? = some x := ⟨_, List.getElem?_eq_getElem (by rw [← HN.out]; omega)⟩
      have hl1 := HL.out.below HII.out.bel
      rw [HN.out] at hl1
      obtain ⟨b1, o1, i1, hb1, c1, c2, c3, c4⟩ := rin_at hl1 hx (k : Int) rfl
      rw [← HN.out] at i1
      have hb1' : b1 < wo.heap.size := by omega
      have hst := rK_succ (ifs := L ifs) hx
      rw [← HCUR.out] at hst
      have hxz : x.t.size ≤ 100000 := by
        have h1 := sum_mem wr1 (List.mem_of_getElem? hx)
        have h2 := HC.out
        unfold wr1 at h1 h2
        omega
      have HST := Lib.hid hst
      obtain ⟨t, q, sp, bk⟩ := x
      simp only at hxz c1 c2 c3 c4
      clear hl1 hx hst
      have HIP := Lib.hid (HII.out.next (Below.alloc (Below.refl _ _) (Nat.le_refl _) (.cells #[.string t, .bool q, .bool sp, .bool bk] 65)))
      cases bk with
      | true =>
        cases op with
        | true =>
          go_wp2_with (at_builtin; go_must ((refine append_sl rfl _ _ 38 rfl (w.heap.size + 1) 43 Try.underlying38 infoF rfl (by decide) (v := .slice oa m oc) (n := m) (xs := fv.map (·.2)) rfl ((HOUT.out.alloc _).alloc _) (m := 1) (news := [.slice na now.length nc]) rfl (sl_made_at _ #[.slice na now.length nc] _ 1 1 rfl (by unfold maxLen; omega) (by simp)) (by omega) (by intro u hu; simp at hu; subst hu; rfl) (by omega) (by simp; omega) ?_); intro g1 cap1 w2 hown hgrow hlie hglt; obtain ⟨_, hcc, hff⟩ := grown_stays (Below.refl w.heap.size (wo.alloc (.cells #[.string t, .bool q, .bool sp, .bool true] 65))) (by simp; omega) hgrow (fun p hp => (World.ownsRow.lt HIP.out.rp.out p hp).1); have k0 := (hcc 0).trans (HIP.out.rp.blk.cell 0); have y1 := (hff 0).trans (HIP.out.rp.blk.free 0); simp at k0; have HE := Lib.hid (fun b d => HIP.out.field _ HM.out hown hgrow b d); skip; clear hcc hff hown hgrow hlie hglt))
          go_roundw
          case rel => exact ⟨k + 1, by omega, by go_num, by rw [HST.out]; rfl, by rw [HST.out]; rfl, _, _, by rw [HST.out]; exact HE.out false false⟩
          case measure => simp [intOf]; omega
        | false =>
          go_wp2
          go_roundw
          case rel => exact ⟨k + 1, by omega, by go_num, by rw [HST.out]; rfl, by rw [HST.out]; rfl, _, _, by rw [HST.out]; exact ⟨HII.out.rp.drop.below (Below.alloc (Below.refl _ _) (Nat.le_refl _) _), HII.out.out, (HII.out.bel.setCell (p := ⟨w.heap.size, 0, none⟩) (Nat.le_refl _) _).alloc (by simp; omega) _⟩⟩
          case measure => simp [intOf]; omega
      | false =>
        have HBX0 := Lib.hid (Blk.new wo 65 #[.string t, .bool q, .bool sp, .bool false])
        have hcount : ∀ j, cntR (rJ (L ifs) ⟨t, q, sp, false⟩ ⟨out, now, op, due⟩ j) ≤ 200000 := fun j => by
          have h1 := rJ_cnt (L ifs) ⟨t, q, sp, false⟩ ⟨out, now, op, due⟩ j
          have h2 := HCN.out
          have h3 := HC.out
          simp only at h1
          omega
        have HCT := Lib.hid hcount
        clear hcount
        have HR0 : Hid (rJ (L ifs) ⟨t, q, sp, false⟩ ⟨out, now, op, due⟩ 0 = ⟨out, now, if q then true else op, if q then false else due⟩) := Lib.hid (by cases q <;> rfl)
        cases q with
        | true =>
          go_wp2_with fail
          go_loopw [5, 7, 8, 11] (fun vo op2 due2 jv wi => ∃ j : Nat, j ≤ t.size ∧ jv = .int .i64 j ∧ op2 = .bool (rJ (L ifs) ⟨t, true, sp, false⟩ ⟨out, now, op, due⟩ j).op ∧ due2 = .bool (rJ (L ifs) ⟨t, true, sp, false⟩ ⟨out, now, op, due⟩ j).due ∧ (∃ vn fv, RIn w wi vo (rJ (L ifs) ⟨t, true, sp, false⟩ ⟨out, now, op, due⟩ j) vn fv) ∧ Blk wi wo.heap.size 65 #[.string t, .bool true, .bool sp, .bool false]) (fun _ _ _ jv _ => t.size - (intOf jv).toNat)
          case atStart => exact ⟨0, Nat.zero_le _, rfl, by rw [HR0.out]; rfl, by rw [HR0.out]; rfl, ⟨_, _, by rw [HR0.out]; exact HIP.out.like rfl rfl⟩, HBX0.out⟩
          case round =>
            obtain ⟨j, hj, rfl, rfl, rfl, ⟨vn2, fv2, HI2⟩, hbx⟩ := hrel
            obtain ⟨wi, rfl⟩ : ∃ wi : World, wi = wr := ⟨_, rfl⟩
            have hct := HCT.out j
            have HRJ := Lib.hid (fun h => rJ_succ (ifs := L ifs) (p := ⟨t, true, sp, false⟩) (s := ⟨out, now, op, due⟩) (j := j) h)
            have HRE : Hid (j = t.size → rK (L ifs) l (k + 1) = rJ (L ifs) ⟨t, true, sp, false⟩ ⟨out, now, op, due⟩ j) := Lib.hid fun e => by
              rw [HST.out, e]
              unfold rJ
              rw [List.take_of_length_le (by rw [L_size]; exact Nat.le_refl _)]; rfl
            obtain ⟨cur2, hcur2⟩ : ∃ c, c = rJ (L ifs) ⟨t, true, sp, false⟩ ⟨out, now, op, due⟩ j := ⟨_, rfl⟩
            rw [← hcur2] at HI2 hct HRJ HRE ⊢
            clear hcur2
            obtain ⟨out2, now2, op2, due2⟩ := cur2
            have hlens := HI2.lens
            obtain ⟨m2, hm2'⟩ : ∃ m, m = fv2.length := ⟨_, rfl⟩
            obtain ⟨n2, hn2'⟩ : ∃ m, m = now2.length := ⟨_, rfl⟩
            simp only at hlens hct
            have hm2b : m2 ≤ 200000 := by omega
            have hn2b : n2 ≤ 200000 := by omega
            obtain ⟨oa2, oc2, rfl⟩ := own_shape HI2.rp.out
            obtain ⟨na2, nc2, rfl⟩ := own_shape HI2.rp.own
            have HOUT2 := Lib.hid HI2.rp.out
            have HOWN2 := Lib.hid HI2.rp.own
            simp only at HI2 HOWN2 ⊢
            rw [← hm2'] at HOUT2 HI2 ⊢
            rw [← hn2'] at HOWN2 HI2
            have hzi := HI2.rp.blk.lt
            have z1 := HI2.rp.blk.cell 0
            have y1 := HI2.rp.blk.free 0
            have x0 := hbx.cell 0
            have x1 := hbx.cell 1
            have x2 := hbx.cell 2
            have x3 := hbx.cell 3
            have hgx := hbx.lt
            simp at z1 x0 x1 x2 x3
            have HM2 := Lib.hid hm2'
            have HN2 := Lib.hid hn2'
            have HIN := Lib.hid HI2
            have HBX := Lib.hid hbx
            have hzne : w.heap.size < wo.heap.size := hz0
            clear hlens hct hm2' hn2' HI2 hbx
            by_cases hjt : j < t.size
            · have hidx := run_idx (P := Try.prog) Try.underlying9 t (k := .i64) (j : Int) j rfl hjt
              have HR1 := Lib.hid (HRJ.out hjt)
              obtain ⟨c, hcc⟩ : ∃ c, c = (L t).getD j 0 := ⟨_, rfl⟩
              rw [← hcc] at hidx HR1
              clear hcc
              have CI1 := Lib.hid (CI.out c)
              have CW1 := Lib.hid (CW.out c)
              have HR2 : Hid (rJ (L ifs) ⟨t, true, sp, false⟩ ⟨out, now, op, due⟩ (j + 1) = ⟨out2, now2 ++ [⟨c, true⟩], true, false⟩) := Lib.hid HR1.out
              go_wp2_with (first | (go_at_call 20; with_reducible refine (CI1.out _).mono ?_; rintro e w' ⟨rfl, rfl⟩) | (at_builtin; go_must ((refine append_sl rfl _ _ 41 rfl (w.heap.size + 1) 68 Try.underlying41 infoS rfl (by decide) (v := .slice na2 n2 nc2) (n := n2) (xs := now2.flatMap sC) rfl (HOWN2.out.alloc _) (m := 1) (news := [.int .u8 ((c.toNat : Nat) : Int), .bool true]) rfl (sl_made_at _ #[.int .u8 ((c.toNat : Nat) : Int), .bool true] _ 1 2 rfl (by unfold maxLen; omega) (by simp)) (by omega) (ss_one [⟨c, true⟩]) (by omega) (by simp; omega) ?_); intro g1 cap1 w2 hown hgrow hlie hglt; obtain ⟨_, hcc, hff⟩ := grown_stays (Below.refl w.heap.size wi) hzi hgrow (fun p hp => (World.ownsRow.lt HIN.out.rp.own p hp).1); have k0 := (hcc 0).trans (HIN.out.rp.blk.cell 0); have y2 := (hff 0).trans (HIN.out.rp.blk.free 0); simp at k0; have HE := Lib.hid (HIN.out.byte _ ⟨c, true⟩ HN2.out rfl hown hgrow hlie true false); have HB2 := Lib.hid ((blk_grown HBX.out hgrow (blk_kind HBX.out HIN.out.rp.own (by decide))).far (p := ⟨w.heap.size, 0, none⟩) (by simp; omega) (.slice (some ⟨g1, 0, none⟩) (n2 + 1) cap1)); clear hcc hff hown hgrow hlie hglt)))
              go_roundw
              case rel => exact ⟨j + 1, by omega, by go_num, by rw [HR2.out], by rw [HR2.out], ⟨_, _, by rw [HR2.out]; exact HE.out⟩, HB2.out⟩
              case measure => simp [intOf]; omega
            · have HRK := Lib.hid (HRE.out (by omega))
              go_wp2_with fail
              go_roundw
              case rel => exact ⟨k + 1, by omega, by go_num, by rw [HRK.out], by rw [HRK.out], _, _, by rw [HRK.out]; exact HIN.out⟩
              case measure => simp [intOf]; omega
        | false =>
          go_wp2_with fail
          go_loopw [5, 7, 8, 11] (fun vo op2 due2 jv wi => ∃ j : Nat, j ≤ t.size ∧ jv = .int .i64 j ∧ op2 = .bool (rJ (L ifs) ⟨t, false, sp, false⟩ ⟨out, now, op, due⟩ j).op ∧ due2 = .bool (rJ (L ifs) ⟨t, false, sp, false⟩ ⟨out, now, op, due⟩ j).due ∧ (∃ vn fv, RIn w wi vo (rJ (L ifs) ⟨t, false, sp, false⟩ ⟨out, now, op, due⟩ j) vn fv) ∧ Blk wi wo.heap.size 65 #[.string t, .bool false, .bool sp, .bool false]) (fun _ _ _ jv _ => t.size - (intOf jv).toNat)
          case atStart => exact ⟨0, Nat.zero_le _, rfl, by rw [HR0.out]; rfl, by rw [HR0.out]; rfl, ⟨_, _, by rw [HR0.out]; exact HIP.out.like rfl rfl⟩, HBX0.out⟩
          case round =>
            obtain ⟨j, hj, rfl, rfl, rfl, ⟨vn2, fv2, HI2⟩, hbx⟩ := hrel
            obtain ⟨wi, rfl⟩ : ∃ wi : World, wi = wr := ⟨_, rfl⟩
            have hct := HCT.out j
            have HRJ := Lib.hid (fun h => rJ_succ (ifs := L ifs) (p := ⟨t, false, sp, false⟩) (s := ⟨out, now, op, due⟩) (j := j) h)
            have HRE : Hid (j = t.size → rK (L ifs) l (k + 1) = rJ (L ifs) ⟨t, false, sp, false⟩ ⟨out, now, op, due⟩ j) := Lib.hid fun e => by
              rw [HST.out, e]
              unfold rJ
              rw [List.take_of_length_le (by rw [L_size]; exact Nat.le_refl _)]; rfl
            obtain ⟨cur2, hcur2⟩ : ∃ c, c = rJ (L ifs) ⟨t, false, sp, false⟩ ⟨out, now, op, due⟩ j := ⟨_, rfl⟩
            rw [← hcur2] at HI2 hct HRJ HRE ⊢
            clear hcur2
            obtain ⟨out2, now2, op2, due2⟩ := cur2
            have hlens := HI2.lens
            obtain ⟨m2, hm2'⟩ : ∃ m, m = fv2.length := ⟨_, rfl⟩
            obtain ⟨n2, hn2'⟩ : ∃ m, m = now2.length := ⟨_, rfl⟩
            simp only at hlens hct
            have hm2b : m2 ≤ 200000 := by omega
            have hn2b : n2 ≤ 200000 := by omega
            obtain ⟨oa2, oc2, rfl⟩ := own_shape HI2.rp.out
            obtain ⟨na2, nc2, rfl⟩ := own_shape HI2.rp.own
            have HOUT2 := Lib.hid HI2.rp.out
            have HOWN2 := Lib.hid HI2.rp.own
            simp only at HI2 HOWN2 ⊢
            rw [← hm2'] at HOUT2 HI2 ⊢
            rw [← hn2'] at HOWN2 HI2
            have hzi := HI2.rp.blk.lt
            have z1 := HI2.rp.blk.cell 0
            have y1 := HI2.rp.blk.free 0
            have x0 := hbx.cell 0
            have x1 := hbx.cell 1
            have x2 := hbx.cell 2
            have x3 := hbx.cell 3
            have hgx := hbx.lt
            simp at z1 x0 x1 x2 x3
            have HM2 := Lib.hid hm2'
            have HN2 := Lib.hid hn2'
            have HIN := Lib.hid HI2
            have HBX := Lib.hid hbx
            have hzne : w.heap.size < wo.heap.size := hz0
            clear hlens hct hm2' hn2' HI2 hbx
            by_cases hjt : j < t.size
            · have hidx := run_idx (P := Try.prog) Try.underlying9 t (k := .i64) (j : Int) j rfl hjt
              have HR1 := Lib.hid (HRJ.out hjt)
              obtain ⟨c, hcc⟩ : ∃ c, c = (L t).getD j 0 := ⟨_, rfl⟩
              rw [← hcc] at hidx HR1
              clear hcc
              have CI1 := Lib.hid (CI.out c)
              have CW1 := Lib.hid (CW.out c)
              cases sp with
              | false =>
                have HR2 : Hid (rJ (L ifs) ⟨t, false, false, false⟩ ⟨out, now, op, due⟩ (j + 1) = ⟨out2, now2 ++ [⟨c, false⟩], true, false⟩) := Lib.hid HR1.out
                go_wp2_with (first | (go_at_call 20; with_reducible refine (CI1.out _).mono ?_; rintro e w' ⟨rfl, rfl⟩) | (at_builtin; go_must ((refine append_sl rfl _ _ 41 rfl (w.heap.size + 1) 68 Try.underlying41 infoS rfl (by decide) (v := .slice na2 n2 nc2) (n := n2) (xs := now2.flatMap sC) rfl (HOWN2.out.alloc _) (m := 1) (news := [.int .u8 ((c.toNat : Nat) : Int), .bool false]) rfl (sl_made_at _ #[.int .u8 ((c.toNat : Nat) : Int), .bool false] _ 1 2 rfl (by unfold maxLen; omega) (by simp)) (by omega) (ss_one [⟨c, false⟩]) (by omega) (by simp; omega) ?_); intro g1 cap1 w2 hown hgrow hlie hglt; obtain ⟨_, hcc, hff⟩ := grown_stays (Below.refl w.heap.size wi) hzi hgrow (fun p hp => (World.ownsRow.lt HIN.out.rp.own p hp).1); have k0 := (hcc 0).trans (HIN.out.rp.blk.cell 0); have y2 := (hff 0).trans (HIN.out.rp.blk.free 0); simp at k0; have HE := Lib.hid (HIN.out.byte _ ⟨c, false⟩ HN2.out rfl hown hgrow hlie true false); have HB2 := Lib.hid ((blk_grown HBX.out hgrow (blk_kind HBX.out HIN.out.rp.own (by decide))).far (p := ⟨w.heap.size, 0, none⟩) (by simp; omega) (.slice (some ⟨g1, 0, none⟩) (n2 + 1) cap1)); clear hcc hff hown hgrow hlie hglt)))
                go_roundw
                case rel => exact ⟨j + 1, by omega, by go_num, by rw [HR2.out], by rw [HR2.out], ⟨_, _, by rw [HR2.out]; exact HE.out⟩, HB2.out⟩
                case measure => simp [intOf]; omega
              | true =>
                cases hh : hasB (L ifs) c with
                | false =>
                  have HR2 : Hid (rJ (L ifs) ⟨t, false, true, false⟩ ⟨out, now, op, due⟩ (j + 1) = ⟨out2, now2 ++ [⟨c, false⟩], true, false⟩) := Lib.hid (by rw [HR1.out, stepR, hh]; rfl)
                  rw [hh] at CI1
                  clear hh
                  go_wp2_with (first | (go_at_call 20; with_reducible refine (CI1.out _).mono ?_; rintro e w' ⟨rfl, rfl⟩) | (at_builtin; go_must ((refine append_sl rfl _ _ 41 rfl (w.heap.size + 1) 68 Try.underlying41 infoS rfl (by decide) (v := .slice na2 n2 nc2) (n := n2) (xs := now2.flatMap sC) rfl (HOWN2.out.alloc _) (m := 1) (news := [.int .u8 ((c.toNat : Nat) : Int), .bool false]) rfl (sl_made_at _ #[.int .u8 ((c.toNat : Nat) : Int), .bool false] _ 1 2 rfl (by unfold maxLen; omega) (by simp)) (by omega) (ss_one [⟨c, false⟩]) (by omega) (by simp; omega) ?_); intro g1 cap1 w2 hown hgrow hlie hglt; obtain ⟨_, hcc, hff⟩ := grown_stays (Below.refl w.heap.size wi) hzi hgrow (fun p hp => (World.ownsRow.lt HIN.out.rp.own p hp).1); have k0 := (hcc 0).trans (HIN.out.rp.blk.cell 0); have y2 := (hff 0).trans (HIN.out.rp.blk.free 0); simp at k0; have HE := Lib.hid (HIN.out.byte _ ⟨c, false⟩ HN2.out rfl hown hgrow hlie true false); have HB2 := Lib.hid ((blk_grown HBX.out hgrow (blk_kind HBX.out HIN.out.rp.own (by decide))).far (p := ⟨w.heap.size, 0, none⟩) (by simp; omega) (.slice (some ⟨g1, 0, none⟩) (n2 + 1) cap1)); clear hcc hff hown hgrow hlie hglt)))
                  go_roundw
                  case rel => exact ⟨j + 1, by omega, by go_num, by rw [HR2.out], by rw [HR2.out], ⟨_, _, by rw [HR2.out]; exact HE.out⟩, HB2.out⟩
                  case measure => simp [intOf]; omega
                | true =>
                  cases hw : isW c with
                  | true =>
                    cases op2 with
                    | true =>
                      have HR2 : Hid (rJ (L ifs) ⟨t, false, true, false⟩ ⟨out, now, op, due⟩ (j + 1) = ⟨out2 ++ [now2], [], false, true⟩) := Lib.hid (by rw [HR1.out, stepR, hh, hw]; rfl)
                      rw [hh] at CI1
                      rw [hw] at CW1
                      clear hh hw
                      go_wp2_with (first | (go_at_call 20; with_reducible refine (CI1.out _).mono ?_; rintro e w' ⟨rfl, rfl⟩) | (go_at_call 21; with_reducible refine (CW1.out _).mono ?_; rintro e w' ⟨rfl, rfl⟩) | (at_builtin; go_must ((refine append_sl rfl _ _ 38 rfl (w.heap.size + 1) 43 Try.underlying38 infoF rfl (by decide) (v := .slice oa2 m2 oc2) (n := m2) (xs := fv2.map (·.2)) rfl (HOUT2.out.alloc _) (m := 1) (news := [.slice na2 n2 nc2]) rfl (sl_made_at _ #[.slice na2 n2 nc2] _ 1 1 rfl (by unfold maxLen; omega) (by simp)) (by omega) (by intro u hu; simp at hu; subst hu; rfl) (by omega) (by simp; omega) ?_); intro g1 cap1 w2 hown hgrow hlie hglt; obtain ⟨_, hcc, hff⟩ := grown_stays (Below.refl w.heap.size wi) (hzi) hgrow (fun p hp => (World.ownsRow.lt HIN.out.rp.out p hp).1); have k0 := (hcc 0).trans (HIN.out.rp.blk.cell 0); have y1 := (hff 0).trans (HIN.out.rp.blk.free 0); simp at k0; have HE := Lib.hid (fun b d => HIN.out.field _ HM2.out hown hgrow b d); have HB2 := Lib.hid ((blk_grown HBX.out hgrow (blk_kind HBX.out HIN.out.rp.out (by decide))).far (p := ⟨w.heap.size, 0, none⟩) (by simp; omega) (.slice none 0 0)); clear hcc hff hown hgrow hlie hglt)))
                      go_roundw
                      case rel => exact ⟨j + 1, by omega, by go_num, by rw [HR2.out], by rw [HR2.out], ⟨_, _, by rw [HR2.out]; exact HE.out false true⟩, HB2.out⟩
                      case measure => simp [intOf]; omega
                    | false =>
                      have HR2 : Hid (rJ (L ifs) ⟨t, false, true, false⟩ ⟨out, now, op, due⟩ (j + 1) = ⟨out2, now2, false, due2⟩) := Lib.hid (by rw [HR1.out, stepR, hh, hw]; rfl)
                      rw [hh] at CI1
                      rw [hw] at CW1
                      clear hh hw
                      go_wp2_with (first | (go_at_call 20; with_reducible refine (CI1.out _).mono ?_; rintro e w' ⟨rfl, rfl⟩) | (go_at_call 21; with_reducible refine (CW1.out _).mono ?_; rintro e w' ⟨rfl, rfl⟩))
                      go_roundw
                      case rel => exact ⟨j + 1, by omega, by go_num, by rw [HR2.out], by rw [HR2.out], ⟨_, _, by rw [HR2.out]; exact HIN.out.like rfl rfl⟩, HBX.out⟩
                      case measure => simp [intOf]; omega
                  | false =>
                    cases due2 with
                    | true =>
                      have HR2 : Hid (rJ (L ifs) ⟨t, false, true, false⟩ ⟨out, now, op, due⟩ (j + 1) = ⟨out2, now2, op2, false⟩) := Lib.hid (by rw [HR1.out, stepR, hh, hw]; rfl)
                      rw [hh] at CI1
                      rw [hw] at CW1
                      clear hh hw
                      go_wp2_with (first | (go_at_call 20; with_reducible refine (CI1.out _).mono ?_; rintro e w' ⟨rfl, rfl⟩) | (go_at_call 21; with_reducible refine (CW1.out _).mono ?_; rintro e w' ⟨rfl, rfl⟩))
                      go_roundw
                      case rel => exact ⟨j + 1, by omega, by go_num, by rw [HR2.out], by rw [HR2.out], ⟨_, _, by rw [HR2.out]; exact HIN.out.like rfl rfl⟩, HBX.out⟩
                      case measure => simp [intOf]; omega
                    | false =>
                      have HR2 : Hid (rJ (L ifs) ⟨t, false, true, false⟩ ⟨out, now, op, due⟩ (j + 1) = ⟨out2 ++ [now2], [], false, false⟩) := Lib.hid (by rw [HR1.out, stepR, hh, hw]; rfl)
                      rw [hh] at CI1
                      rw [hw] at CW1
                      clear hh hw
                      go_wp2_with (first | (go_at_call 20; with_reducible refine (CI1.out _).mono ?_; rintro e w' ⟨rfl, rfl⟩) | (go_at_call 21; with_reducible refine (CW1.out _).mono ?_; rintro e w' ⟨rfl, rfl⟩) | (at_builtin; go_must ((refine append_sl rfl _ _ 38 rfl (w.heap.size + 1) 43 Try.underlying38 infoF rfl (by decide) (v := .slice oa2 m2 oc2) (n := m2) (xs := fv2.map (·.2)) rfl (HOUT2.out.alloc _) (m := 1) (news := [.slice na2 n2 nc2]) rfl (sl_made_at _ #[.slice na2 n2 nc2] _ 1 1 rfl (by unfold maxLen; omega) (by simp)) (by omega) (by intro u hu; simp at hu; subst hu; rfl) (by omega) (by simp; omega) ?_); intro g1 cap1 w2 hown hgrow hlie hglt; obtain ⟨_, hcc, hff⟩ := grown_stays (Below.refl w.heap.size wi) (hzi) hgrow (fun p hp => (World.ownsRow.lt HIN.out.rp.out p hp).1); have k0 := (hcc 0).trans (HIN.out.rp.blk.cell 0); have y1 := (hff 0).trans (HIN.out.rp.blk.free 0); simp at k0; have HE := Lib.hid (fun b d => HIN.out.field _ HM2.out hown hgrow b d); have HB2 := Lib.hid ((blk_grown HBX.out hgrow (blk_kind HBX.out HIN.out.rp.out (by decide))).far (p := ⟨w.heap.size, 0, none⟩) (by simp; omega) (.slice none 0 0)); clear hcc hff hown hgrow hlie hglt)))
                      go_roundw
                      case rel => exact ⟨j + 1, by omega, by go_num, by rw [HR2.out], by rw [HR2.out], ⟨_, _, by rw [HR2.out]; exact HE.out false false⟩, HB2.out⟩
                      case measure => simp [intOf]; omega
            · have HRK := Lib.hid (HRE.out (by omega))
              go_wp2_with fail
              go_roundw
              case rel => exact ⟨k + 1, by omega, by go_num, by rw [HRK.out], by rw [HRK.out], _, _, by rw [HRK.out]; exact HIN.out⟩
              case measure => simp [intOf]; omega
    · obtain rfl : k = n := by omega
      have HRS : Hid (refSplit (L ifs) l = if op then out ++ [now] else out) := Lib.hid (by
        unfold refSplit
        have e : l.foldl (stepRP (L ifs)) Rt0 = ⟨out, now, op, due⟩ := by rw [HCUR.out, rK, List.take_of_length_le (by rw [← HN.out]; omega)]
        rw [e])
      cases op with
      | true =>
        go_wp2_with (at_builtin; go_must ((refine append_sl rfl _ _ 38 rfl (w.heap.size + 1) 43 Try.underlying38 infoF rfl (by decide) (v := .slice oa m oc) (n := m) (xs := fv.map (·.2)) rfl (HOUT.out.alloc _) (m := 1) (news := [.slice na now.length nc]) rfl (sl_made_at _ #[.slice na now.length nc] _ 1 1 rfl (by unfold maxLen; omega) (by simp)) (by omega) (by intro u hu; simp at hu; subst hu; rfl) (by omega) (by simp; omega) ?_); intro g1 cap1 w2 hown hgrow hlie hglt; obtain ⟨_, hcc, hff⟩ := grown_stays (Below.refl w.heap.size wo) (hz0) hgrow (fun p hp => (World.ownsRow.lt HII.out.rp.out p hp).1); have k0 := (hcc 0).trans (HII.out.rp.blk.cell 0); have y1 := (hff 0).trans (HII.out.rp.blk.free 0); simp at k0; have HE := Lib.hid (HII.out.last _ HM.out hown hgrow); skip; clear hcc hff hown hgrow hlie hglt))
        go_ret
        exact ⟨HE.out.2, _, rfl, by
          rw [HRS.out]
          obtain ⟨fv3, h1, h2, h3⟩ := HE.out.1
          exact ⟨fv3, own_from h1 (by omega), fun x hx => own_from (h2 x hx) (by omega), h3⟩⟩
      | false =>
        go_wp2
        go_ret
        exact ⟨HII.out.bel, _, rfl, by
          rw [HRS.out]
          exact ⟨fv, own_from (by have := HOUT.out; rw [HM.out] at this ⊢; exact this) (by omega), fun x hx => own_from (HII.out.rp.fields x hx) (by omega), HII.out.out⟩⟩
end Go.Proofs.Ytlehofcgkmhgaaa
