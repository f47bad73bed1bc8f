/-
  The walk of VarsAgain.
-/
import Derived.Test.YthfnkgofkdahfaaDoorB13
import Derived.Test.YthfnkgofkdahfaaDoorV3
import Derived.Test.YthfnkgofkdahfaaDoorHeld
import Derived.Deep.RegionHeld3
namespace Go.Proofs.YthfnkgofkdahfaaDoor
open Go.RowKit

theorem cut_len (s : Nm) : (Lib.cut s [61]).1.length ≤ s.length ∧ (Lib.cut s [61]).2.1.length ≤ s.length := by
  rcases ent_or s with h | ⟨k, t, h1, rfl⟩
  · rw [cut_no h]; simp
  · rw [cut_ent h1]; simp; omega
theorem fine_short {s : ByteArray} (h : s.size ≤ 1048576) : Fine (L s) := by
  have := cut_len (L s)
  rw [L_size] at this
  exact ⟨by rw [L_size]; omega, by omega, by omega⟩
theorem fine_ent {l : List (Nm × Xd)} (hg : Good l) : ∀ s ∈ (envR l).map entS, Fine (L s) := by
  intro s hs
  obtain ⟨p, hp, rfl⟩ := List.mem_map.1 hs
  rw [envR, List.mem_map] at hp
  obtain ⟨q, hq, rfl⟩ := hp
  have h := hg q (List.mem_filter.1 hq).1
  show Fine (ent _)
  refine ⟨?_, ?_, ?_⟩
  · rw [ent, List.length_append, List.length_cons]; simp only; omega
  · rw [ent, cut_ent (nameL_noEq h.1)]; exact h.2.1
  · rw [ent, cut_ent (nameL_noEq h.1)]; exact h.2.2

theorem own_ne_blk {w : World} {base : Nat} {e t : TypeId} {size : Nat} {v : Value} {n : Nat} {xs : List Value} {q : Nat} {cs : Array Value} (h : w.ownsRow base e size v n xs) (hb : Blk w q t cs) (hne : e ≠ t) : v.ownBlock ≠ some q := by
  obtain ⟨_, h⟩ := h
  rcases h with ⟨rfl, _⟩ | ⟨b, cap, cur, rfl, _, h1, _⟩
  · simp [Value.ownBlock]
  · intro e2
    obtain rfl : b = q := by simpa [Value.ownBlock] using e2
    rw [Blk, h1] at hb
    simp only [Option.some.injEq, Obj.cells.injEq] at hb
    exact hne hb.2.1
theorem VS.own {v : Value} {w : World} {lo g mb n : Nat} {l : List (Nm × Xd)} {xs : List ByteArray} {st : Int} (h : VS v w lo g mb n l xs st) : OwnS w lo v xs := by
  obtain ⟨m, _, _, _, h1, _⟩ := h
  exact h1

set_option maxHeartbeats 4000000 in
set_option maxRecDepth 100000 in
theorem again_any (ae : Option Addr) (ne ce : Nat) (es : List ByteArray) (a : Option Addr) (cap : Nat) (ops : List Opd) (w : World) (hE : Elems w w.heap.size ae ne (es.map .string)) (hO : OpsIn w w.heap.size a ops) (hH : Held w)
    (hze : ∀ s ∈ es, s.size ≤ 1048576) (hzo : ∀ o ∈ ops, o.name.size ≤ 1048576 ∧ o.text.size ≤ 1048576) :
    Calls Tryd.prog 4 #[.slice ae ne ce, .slice a ops.length cap] w fun e w' => e = .returned (.bool true) ∧ Below w.heap.size w w' := by
  obtain ⟨⟨m0, hm0⟩, h0⟩ := hH
  have hel : es.length = ne := by simpa using hE.1
  have C0 := Lib.hid (anchor_any w)
  have CS : Hid (∀ W, Below w.heap.size w W → Calls Tryd.prog 10 #[.slice a ops.length cap, .slice ae ne ce, .slice none 0 0] W (SmallP W ops ne 0)) := Lib.hid fun W hW =>
    small_any a cap ops ae ne ce none 0 0 W (by have := hO.below hW; exact ⟨this.1, this.2.imp id fun ⟨b, off, q1, q2, q3⟩ => ⟨b, off, q1, Nat.lt_of_lt_of_le q2 hW.size, fun i o ho => by obtain ⟨x, c, r1, r2⟩ := q3 i o ho; exact ⟨x, c, r1, r2.mono hW.size⟩⟩⟩) hE.2.1 (Nat.zero_le _) fun o ho => by have := hzo o ho; unfold maxLen; omega
  have HEL := Lib.hid hel
  have HE := Lib.hid hE
  have HO := Lib.hid hO
  have HZE := Lib.hid hze
  have HZO := Lib.hid hzo
  have HM0 : Hid (∀ W, Below w.heap.size w W → W.cell? ⟨0, 0, none⟩ = some (.int .i64 m0)) := Lib.hid fun W hW => (hW.cell (p := ⟨0, 0, none⟩) h0).trans hm0
  obtain ⟨m, hm⟩ : ∃ m, m = ops.length := ⟨_, rfl⟩
  have HM := Lib.hid hm
  rw [← hm] at CS ⊢
  clear hel hE hO hze hzo hm0 hm
  go_enter Tryd.func4, Tryd.ntmps4
  go_wp2_with fail
  refine C0.out.mono ?_
  rintro e w1 ⟨rfl, hb1⟩
  have HB1 := Lib.hid hb1
  clear hb1
  go_wp2_with fail
  refine (CS.out _ HB1.out).mono ?_
  rintro e w2 ⟨b, rfl, hb2, hsm⟩
  have HB2 : Hid (Below w.heap.size w w2) := Lib.hid (HB1.out.trans (hb2.mono HB1.out.size))
  clear hb2
  cases b with
  | false =>
    clear hsm
    go_wp2_with fail
    go_ret
    exact ⟨rfl, HB2.out⟩
  | true =>
    obtain ⟨hfew, hm60, hne30, _⟩ := hsm rfl
    have HFEW := Lib.hid hfew
    rw [← HM.out] at hm60
    clear hfew hsm
    have CN : Hid (Calls Tryd.prog 6 #[.slice ae ne ce, .string ⟨#[115, 104]⟩, .slice none 0 0] w2 fun e w' => ∃ g mb, e = .returned (.pointer (some ⟨g, 0, none⟩)) ∧ VSt w' w2.heap.size g mb ne (newL (es.map L)) [] 0 ∧ Below w2.heap.size w2 w') := Lib.hid
      (pnew_any ae ne ce es none 0 0 [] w2 w.heap.size m0 (HE.out.below HB2.out) ⟨rfl, Nat.zero_le _, .inl rfl⟩ HB2.out.size (by omega) (by omega) (fun s hs => fine_short (HZE.out s hs)) (HM0.out w2 HB2.out) (by have := HB2.out.size; omega))
    go_wp2_with fail
    refine CN.out.mono ?_
    rintro e w3 ⟨g, mb, rfl, hv3, hb3⟩
    have HB3 : Hid (Below w.heap.size w w3) := Lib.hid (HB2.out.trans (hb3.mono HB2.out.size))
    have HV3 := Lib.hid hv3
    have CR : Hid (Calls Tryd.prog 11 #[.slice ae ne ce, .string ⟨#[115, 104]⟩, .slice none 0 0] w3 fun e w' => ∃ V', e = .returned V' ∧ RSt w' w3.heap.size w.heap.size V' (newL (es.map L)) [] 0 ∧ Below w3.heap.size w3 w') := Lib.hid
      (rnew_any ae ne ce es none 0 0 [] w3 w.heap.size (HE.out.below HB3.out) ⟨rfl, Nat.zero_le _, .inl rfl⟩ HB3.out.size (by omega) (fun s hs => by have := HZE.out s hs; omega) (Nat.le_refl _) (Nat.zero_le _))
    have hs2 := HB2.out.size
    have hg3 := hv3.lt
    have hs3 := hb3.size
    clear hv3 hb3
    go_wp2_with fail
    refine CR.out.mono ?_
    rintro e w4 ⟨V4, rfl, hr4, hb4⟩
    have HV4 := Lib.hid (HV3.out.below hb4)
    have HB4 : Hid (Below w.heap.size w w4) := Lib.hid (HB3.out.trans (hb4.mono HB3.out.size))
    have hs4 := hb4.size
    obtain ⟨vL4, a4, c4, rfl, hL4, hA4⟩ := hr4
    have HL4 := Lib.hid hL4
    have HA4 := Lib.hid hA4
    obtain ⟨la4, lc4, rfl⟩ := own_shape hL4
    clear hb4 hL4 hA4
    go_wp2_with fail
    obtain ⟨gb, hgb⟩ : ∃ q, q = w4.heap.size := ⟨_, rfl⟩
    have hgg : g < w3.heap.size ∧ mb < w3.heap.size := hg3
    have HGB := Lib.hid hgb
    have HGG := Lib.hid hgg
    have HS23 : Hid (w.heap.size ≤ w2.heap.size ∧ w2.heap.size ≤ w3.heap.size ∧ w3.heap.size ≤ w4.heap.size) := Lib.hid ⟨hs2, hs3, hs4⟩
    rw [← hgb]
    have hwl : w4.heap.size = gb := hgb.symm
    clear hgb hgg hg3 hs2 hs3 hs4 hwl
    go_loopw [25] (fun i wr => ∃ (k : Nat) (l : List (Nm × Xd)) (xs : List ByteArray) (st : Int) (v : Value) (va : Option Addr) (vc : Nat) (xa : Option Addr) (xc : Nat), k ≤ m ∧ i = .int .i64 k ∧ VS v wr w2.heap.size g mb (ne + k) l xs st ∧ LSt wr w3.heap.size (.slice va l.length vc) l ∧ EA wr w.heap.size xa xc xs ∧ Blk wr gb 35 #[.slice va l.length vc, .string ⟨#[115, 104]⟩, .slice xa xs.length xc, .int .i64 st] ∧ l.length ≤ ne + k ∧ xs.length ≤ 50 ∧ Below w.heap.size w wr ∧ w4.heap.size < wr.heap.size) (fun i _ => m - (intOf i).toNat)
    case atStart =>
      obtain ⟨v, hv⟩ := HV4.out
      refine ⟨0, _, [], 0, v, la4, lc4, a4, c4, Nat.zero_le _, rfl, hv.below ((Below.refl _ _).alloc (Nat.le_refl _) _), own_below HL4.out ((Below.refl _ _).alloc (Nat.le_refl _) _), HA4.out.below ((Below.refl _ _).alloc HB4.out.size _), ?_, ?_, Nat.zero_le _, HB4.out.alloc HB4.out.size _, by simp⟩
      · rw [HGB.out]; exact Blk.new w4 _ _
      · have := newL_len (es.map L) ne (by rw [List.length_map, HEL.out]; exact Nat.le_refl _)
        rwa [List.take_of_length_le (by rw [List.length_map, HEL.out]; exact Nat.le_refl _)] at this
    case round =>
      obtain ⟨k, l, xs, st, v, va, vc, xa, xc, hk, rfl, hv, hL, hA, hG, hll, hxl, hb, hws⟩ := hrel
      have HV := Lib.hid hv
      have HL := Lib.hid hL
      have HA := Lib.hid hA
      have HG := Lib.hid hG
      have HB := Lib.hid hb
      have g0 := hG.cell 0
      have g1 := hG.cell 1
      have g2 := hG.cell 2
      have g3 := hG.cell 3
      have hgl := hG.lt
      simp at g0 g1 g2 g3
      clear hv hL hA hG hb
      by_cases hlt : k < m
      · obtain ⟨o, hx⟩ : ∃ x, ops[k]? = some x := ⟨_, List.getElem?_eq_getElem (by rw [← HM.out]; exact hlt)⟩
        obtain ⟨ob, off, x, c, i1, hobB, c0, c1, c2, c3, c4', hEA⟩ := op_at (cap := cap) (HO.out.below HB.out) HM.out hx
        have hfo := HFEW.out o (List.mem_of_getElem? hx)
        have hbw : ob < wr.heap.size := by have := HB.out.size; omega
        obtain ⟨r, hr⟩ : ∃ r, doR l xs st o = r := ⟨_, rfl⟩
        have hrl := doR_len l xs st o hxl hfo.2.2
        rw [hr] at hrl
        have HRL := Lib.hid hrl
        have CD : Hid (Calls Tryd.prog 12 #[.pointer (some ⟨g, 0, none⟩), .agg #[.slice va l.length vc, .string ⟨#[115, 104]⟩, .slice xa xs.length xc, .int .i64 st], .agg #[.int .i64 o.kind, .string o.name, .string o.text, .int .i64 o.n, .slice x o.args.length c]] (wr.alloc (.cells #[.int .i64 o.kind, .string o.name, .string o.text, .int .i64 o.n, .slice x o.args.length c] 38)) (DoP (wr.alloc (.cells #[.int .i64 o.kind, .string o.name, .string o.text, .int .i64 o.n, .slice x o.args.length c] 38)) w2.heap.size w3.heap.size g mb (ne + k) w.heap.size r)) := Lib.hid (by
          rw [← hr]
          have hbx : Below wr.heap.size wr (wr.alloc (.cells #[.int .i64 o.kind, .string o.name, .string o.text, .int .i64 o.n, .slice x o.args.length c] 38)) := (Below.refl _ _).alloc (Nat.le_refl _) _
          obtain ⟨q1, q2, q3⟩ := HS23.out
          exact do_any o x c _ (HV.out.below hbx) ⟨_, xa, xc, rfl, own_below HL.out hbx, HA.out.below (hbx.mono HB.out.size)⟩ q1 HGG.out.1 HGG.out.2 (by simp; omega) (hEA.below (hbx.mono HB.out.size)) (by omega) (by omega) (by omega) (by omega) (by omega) (by omega))
        obtain ⟨kd, nm, tx, num, ags⟩ := o
        simp only at c0 c1 c2 c3 c4' CD
        clear hx hEA hfo hr hrl
        go_wp2_with fail
        refine CD.out.mono ?_
        rintro e w5 ⟨V5, v5, rfl, hv5, hr5, hbu5⟩
        obtain ⟨vL5, xa5, xc5, rfl, hL5, hA5⟩ := hr5
        obtain ⟨la5, lc5, rfl⟩ := own_shape hL5
        have HV5 := Lib.hid hv5
        have HL5 := Lib.hid hL5
        have HA5 := Lib.hid hA5
        have hgne : gb ≠ g ∧ gb ≠ mb := by have := HGG.out; have := HS23.out; have := HGB.out; omega
        have HG5 : Hid (Blk w5 gb 35 #[.slice va l.length vc, .string ⟨#[115, 104]⟩, .slice xa xs.length xc, .int .i64 st]) := Lib.hid ((HG.out.alloc _).but hbu5 hgne.1 hgne.2)
        have HB5 : Hid (Below w.heap.size w w5) := Lib.hid ((HB.out.alloc HB.out.size _).trans (hbu5.below (by have := HV5.out.ge; have := HS23.out; omega) (by have := HV5.out.ge; have := HS23.out; omega) (by have := HB.out.size; simp; omega)))
        have HW5 : Hid (w4.heap.size < w5.heap.size) := Lib.hid (by have := hbu5.size; simp at this; omega)
        clear g0 g1 g2 g3 hv5 hL5 hA5 hbu5
        have g0 := HG5.out.cell 0
        have g1 := HG5.out.cell 1
        have g2 := HG5.out.cell 2
        have g3 := HG5.out.cell 3
        have f0 := HG5.out.free 0
        have f1 := HG5.out.free 1
        have f2 := HG5.out.free 2
        have f3 := HG5.out.free 3
        simp at g0 g1 g2 g3
        go_wp2_with fail
        go_roundw
        case rel =>
          have hvo : v5.ownBlock ≠ some gb := own_ne_blk HV5.out.own HG5.out (by decide)
          have hlo : (Value.slice la5 r.1.length lc5).ownBlock ≠ some gb := own_ne_blk HL5.out HG5.out (by decide)
          have hgB : w.heap.size ≤ gb := by have := HS23.out; have := HGB.out; omega
          refine ⟨k + 1, r.1, r.2.1, r.2.2, v5, la5, lc5, xa5, xc5, by omega, by go_num, HV5.out.put4 hgne.1 hgne.2 hvo _ _ _ _, own_put4far HL5.out hlo _ _ _ _, HA5.out.below (below_put4 (Below.refl _ _) hgB _ _ _ _), HG5.out.put4 _ _ _ _, ?_, HRL.out.2, below_put4 HB5.out hgB _ _ _ _, ?_⟩
          · have := HRL.out.1
            omega
          · have := HW5.out
            simp only [World.size_setCell]
            exact this
        case measure => simp [intOf]; omega
      · obtain rfl : k = m := by omega
        have hgood := (show VSt wr w2.heap.size g mb (ne + k) l xs st from ⟨v, HV.out⟩).good
        have HGOOD := Lib.hid hgood
        have CE := Lib.hid (venv_any wr m0 ⟨v, HV.out⟩ (by have := HS23.out; omega) (by omega) (HM0.out wr HB.out))
        obtain ⟨N, hN⟩ : ∃ N, N = ((envR l).map entS).length := ⟨_, rfl⟩
        have hNl : N ≤ 1000 := by
          rw [hN, List.length_map]
          have := envR_le l l.length
          rw [List.take_length] at this
          omega
        have HN := Lib.hid hN
        have HGL : Hid (gb < wr.heap.size) := Lib.hid hgl
        clear hN hgood
        go_wp2_with fail
        refine CE.out.mono ?_
        rintro e w5 ⟨v5, rfl, ho5, hb5⟩
        obtain ⟨ea, ec, rfl, hE5⟩ := ho5.elems (by unfold maxLen; have := HN.out; omega)
        have HB5 : Hid (Below w.heap.size w w5) := Lib.hid (HB.out.trans (hb5.mono HB.out.size))
        have HW5 := Lib.hid hb5
        rw [← HN.out] at hE5
        have CN2 := Lib.hid (pnew_any ea N ec ((envR l).map entS) none 0 0 [] w5 w5.heap.size m0 hE5 ⟨rfl, Nat.zero_le _, .inl rfl⟩ (Nat.le_refl _) (by omega) hNl (fine_ent HGOOD.out.2) (HM0.out w5 HB5.out) (by have := HB5.out.size; omega))
        rw [← HN.out]
        clear hE5 ho5 hb5
        go_wp2_with fail
        refine CN2.out.mono ?_
        rintro e w6 ⟨g6, mb6, rfl, hv6, hb6'⟩
        have hbr : Below wr.heap.size wr w6 := HW5.out.trans (hb6'.mono HW5.out.size)
        have HBR := Lib.hid hbr
        have HB6 : Hid (Below w.heap.size w w6) := Lib.hid (HB.out.trans (hbr.mono HB.out.size))
        have hlist : (envR (newL (((envR l).map entS).map L))).map entS = (envR l).map entS := by
          rw [entS_map, env_again HGOOD.out.1 HGOOD.out.2]
        have HLIST := Lib.hid hlist
        have HV6 := Lib.hid hv6
        have HG6 : Hid (Blk w6 gb 35 #[.slice va l.length vc, .string ⟨#[115, 104]⟩, .slice xa xs.length xc, .int .i64 st]) := Lib.hid (HG.out.below hbr HG.out.lt)
        have HL6 := Lib.hid (own_below HL.out hbr)
        have HA6 := Lib.hid (HA.out.below (hbr.mono HB.out.size))
        have hs5 : 0 < w5.heap.size := by have := HB5.out.size; omega
        have CA1 : Hid (∀ V, Below w6.heap.size w6 V → Calls Tryd.prog 13 #[.pointer (some ⟨g6, 0, none⟩)] V fun e w' => ∃ a1 c1, e = .returned (.slice a1 N c1) ∧ Elems w' w'.heap.size a1 N (((envR l).map entS).map .string) ∧ Below V.heap.size V w' ∧ Below w6.heap.size w6 w') := Lib.hid fun V hV =>
          (venv_any V m0 (HV6.out.below hV) hs5 (by omega) (HM0.out V (HB6.out.trans (hV.mono HB6.out.size)))).mono fun e w' ⟨v', h1, h2, h3⟩ => by
            rw [HLIST.out] at h2
            obtain ⟨a1, c1, rfl, h4⟩ := h2.elems (by unfold maxLen; have := HN.out; omega)
            rw [← HN.out] at h1 h4
            exact ⟨a1, c1, h1, h4, h3, hV.trans (h3.mono hV.size)⟩
        have CA2 : Hid (∀ V, Below w6.heap.size w6 V → Calls Tryd.prog 14 #[.agg #[.slice va l.length vc, .string ⟨#[115, 104]⟩, .slice xa xs.length xc, .int .i64 st]] V fun e w' => ∃ a1 c1, e = .returned (.slice a1 N c1) ∧ Elems w' w'.heap.size a1 N (((envR l).map entS).map .string) ∧ Below V.heap.size V w' ∧ Below w6.heap.size w6 w') := Lib.hid fun V hV =>
          (renv_any V (show RSt V w3.heap.size w.heap.size _ l xs st from ⟨_, xa, xc, rfl, own_below HL6.out hV, HA6.out.below (hV.mono HB6.out.size)⟩) (by omega) HGOOD.out.2).mono fun e w' ⟨v', h1, h2, h3⟩ => by
            obtain ⟨a1, c1, rfl, h4⟩ := h2.elems (by unfold maxLen; have := HN.out; omega)
            rw [← HN.out] at h1 h4
            exact ⟨a1, c1, h1, h4, h3, hV.trans (h3.mono hV.size)⟩
        have CS2 : Hid (∀ (V W1 W2 : World) (a1 : Option Addr) (c1 : Nat) (a2 : Option Addr) (c2 : Nat), Elems W1 W1.heap.size a1 N (((envR l).map entS).map .string) → Elems W2 W2.heap.size a2 N (((envR l).map entS).map .string) → Below W1.heap.size W1 V → Below W2.heap.size W2 V → Below w6.heap.size w6 V →
            Calls Tryd.prog 8 #[.slice a1 N c1, .slice a2 N c2] V fun e w' => e = .returned (.bool true) ∧ Below w6.heap.size w6 w') := Lib.hid fun V W1 W2 a1 c1 a2 c2 h1 h2 k1 k2 h3 =>
          (same_any a1 a2 N c1 c2 _ V V.heap.size ((h1.below k1).mono k1.size) ((h2.below k2).mono k2.size)).mono fun e w' h => ⟨h.1, h3.trans (h.2.mono h3.size)⟩
        have hgl6 : gb < w6.heap.size := HG6.out.lt
        clear g0 g1 g2 g3 hv6 hb6' hbr hlist
        have g0 := HG6.out.cell 0
        have g1 := HG6.out.cell 1
        have g2 := HG6.out.cell 2
        have g3 := HG6.out.cell 3
        simp at g0 g1 g2 g3
        go_wp2_with fail
        go_region_held3 (fun W => W.cell? ⟨gb, 0, none⟩ = some (.slice va l.length vc) ∧ W.cell? ⟨gb, 1, none⟩ = some (.string ⟨#[115, 104]⟩) ∧ W.cell? ⟨gb, 2, none⟩ = some (.slice xa xs.length xc) ∧ W.cell? ⟨gb, 3, none⟩ = some (.int .i64 st)) (first | exact ⟨d0, d1, d2, d3⟩ | exact ⟨g0, g1, g2, g3⟩ | go_keep) (first
          | (go_at_call 13; with_reducible refine (CA1.out _ ?_).mono ?_; (first | exact Below.refl _ _ | exact Below.drew (Below.refl _ _) | exact hb7 | exact Below.drew hb7); rintro e x6 ⟨a1, c1, rfl, hE1, hc6, hb6⟩; have d0 := (hb6.cell (p := ⟨gb, 0, none⟩) hgl6).trans g0; have d1 := (hb6.cell (p := ⟨gb, 1, none⟩) hgl6).trans g1; have d2 := (hb6.cell (p := ⟨gb, 2, none⟩) hgl6).trans g2; have d3 := (hb6.cell (p := ⟨gb, 3, none⟩) hgl6).trans g3)
          | (go_at_call 14; with_reducible refine (CA2.out _ ?_).mono ?_; (first | exact Below.refl _ _ | exact Below.drew (Below.refl _ _) | exact hb6 | exact Below.drew hb6); rintro e x7 ⟨a2, c2, rfl, hE2, hc7, hb7⟩; (try clear d0 d1 d2 d3); have d0 := (hb7.cell (p := ⟨gb, 0, none⟩) hgl6).trans g0; have d1 := (hb7.cell (p := ⟨gb, 1, none⟩) hgl6).trans g1; have d2 := (hb7.cell (p := ⟨gb, 2, none⟩) hgl6).trans g2; have d3 := (hb7.cell (p := ⟨gb, 3, none⟩) hgl6).trans g3)
          | (go_at_call 8; with_reducible refine (CS2.out _ x6 x7 a1 c1 a2 c2 hE1 hE2 ?_ ?_ ?_).mono ?_; (first | exact hc7 | exact Below.refl _ _); (first | exact hc6 | exact Below.refl _ _); (first | exact hb7 | exact hb6); rintro e x9 ⟨rfl, hb9⟩; (try clear d0 d1 d2 d3); have d0 := (hb9.cell (p := ⟨gb, 0, none⟩) hgl6).trans g0; have d1 := (hb9.cell (p := ⟨gb, 1, none⟩) hgl6).trans g1; have d2 := (hb9.cell (p := ⟨gb, 2, none⟩) hgl6).trans g2; have d3 := (hb9.cell (p := ⟨gb, 3, none⟩) hgl6).trans g3))
        all_goals
          go_wp2
          go_ret
          exact ⟨rfl, HB6.out.trans ((by first | exact hb9 | exact Below.drew hb9 : Below w6.heap.size w6 _).mono HB6.out.size)⟩
end Go.Proofs.YthfnkgofkdahfaaDoor
