/-
  The document's writer: a simple command.
-/
import Derived.Test.YtnackmnoldkihaaGreatDoorW35
set_option linter.unusedVariables false
set_option linter.unusedSimpArgs false
namespace Go.Proofs.YtnackmnoldkihaaGreatDoor
open Go.RowKit

/-- The commands of a list, a level on. -/
def ndD : Nat → St → Nd → St
 | 0 => fun s _ => s
 | d + 1 => (levS d).2.2
def gnD : Nat → Nd → Bool
 | 0 => fun _ => true
 | d + 1 => (levG d).2.2
theorem levS_node (d : Nat) : (levS d).2.2 = nodeS (levS d).1 (levS d).2.1 (ndD d) := by cases d <;> rfl
theorem levG_node (d : Nat) : (levG d).2.2 = nodeG (levG d).1 (levG d).2.1 (gnD d) := by cases d <;> rfl
theorem ndD_grow (d : Nat) : Grow2 (ndD d) := by
 cases d with
 | zero => exact fun _ _ => Nat.le_refl _
 | succ d => exact (levS_grow d).2.2
/-- What a node's box holds. -/
abbrev ncOf (xk : Int) (x : Nd) (a1 : Option Addr) (n1 c1 : Nat) (a2 : Option Addr) (n2 c2 : Nat) (a3 : Option Addr) (n3 c3 : Nat) (a4 : Option Addr) (n4 c4 : Nat) (a5 : Option Addr) (n5 c5 : Nat) : Array Value := #[.int .i64 xk, .string x.name, .slice a1 n1 c1, .slice a2 n2 c2, .slice a3 n3 c3, .slice a4 n4 c4, .slice a5 n5 c5]
theorem simple_eq2 (d : Nat) (s : St) (x : Nd) : simpleS (levS d).1 s x = redirsS (levS d).1 (wordsS (levS d).1 (assignsS (levS d).1 s x.assigns false) x.words (!x.assigns.isEmpty)) x.redirs (!(x.assigns.isEmpty && x.words.isEmpty)) := rfl
/-- A blank, or none. -/
def blankS (b : Bool) : ByteArray := bif b then ⟨#[32]⟩ else ⟨#[]⟩
theorem blankS_size (b : Bool) : (blankS b).size ≤ 1 := by cases b <;> decide
theorem nextS_put (s : St) (b : Bool) (t : List UInt8) : putS (nextS s b) t = putS s (L (blankS b) ++ t) := by cases b <;> simp [nextS, putS, blankS, L]
set_option maxHeartbeats 8000000 in
set_option maxRecDepth 100000 in
theorem rnode_simple {B d : Nat} (hT : RTextAt B d) (hLn : RLineAt B) (hLs : RListAtS B d) (hNd : ∀ d', d = d' + 1 → RNodeAtS B d') (W0 : World) (dv0 : Value) (out0 : List UInt8) (ds0 : List DocV) (x : Nd) (c : List Value) (h : RW W0 B dv0 out0 ds0) (hc : NdC W0 B d x c) (hg : nodeG (levG d).1 (levG d).2.1 (gnD d) x = true) (hk : x.kind = 1) (hlen : (simpleS (levS d).1 (stOf out0 ds0) x).1.length ≤ lim) :
 Calls Tryz.prog 63 #[.agg #[.string (S out0), dv0], .agg c.toArray] W0 (RS W0 B (simpleS (levS d).1 (stOf out0 ds0) x)) := by
 obtain ⟨w, hw⟩ : ∃ w, w = W0 := ⟨_, rfl⟩
 subst hw
 have hBw := h.2.2.2
 rw [nodeG, Bool.and_eq_true, nodeF, Bool.and_eq_true, Bool.and_eq_true, Bool.and_eq_true, Bool.and_eq_true, Bool.and_eq_true, Bool.and_eq_true] at hg
 obtain ⟨hkb, hsh, hfas, hfw, hfr, hfl, hfn, hfa⟩ := hg
 obtain ⟨a1, c1, a2, c2, a3, c3, a4, c4, a5, c5, rfl, hxz, ⟨hn1, hn2, hn3, hn4, hn5⟩, hAs, hWs, hRd, hLs0, hAr⟩ := hc.open
 obtain ⟨n1, hl1⟩ : ∃ n, x.assigns.length = n := ⟨_, rfl⟩
 obtain ⟨n2, hl2⟩ : ∃ n, x.words.length = n := ⟨_, rfl⟩
 obtain ⟨n3, hl3⟩ : ∃ n, x.redirs.length = n := ⟨_, rfl⟩
 obtain ⟨n4, hl4⟩ : ∃ n, x.lists.length = n := ⟨_, rfl⟩
 obtain ⟨n5, hl5⟩ : ∃ n, x.arms.length = n := ⟨_, rfl⟩
 rw [hl1] at hn1 hAs ⊢
 rw [hl2] at hn2 hWs ⊢
 rw [hl3] at hn3 hRd ⊢
 rw [hl4] at hn4 hLs0 ⊢
 rw [hl5] at hn5 hAr ⊢
 have HAS := Lib.hid hAs
 have HWS := Lib.hid hWs
 have HRD := Lib.hid hRd
 have HLI := Lib.hid hLs0
 have HARM := Lib.hid hAr
 have N1 := Lib.hid hl1
 have N2 := Lib.hid hl2
 have N3 := Lib.hid hl3
 have N4 := Lib.hid hl4
 have N5 := Lib.hid hl5
 have GAS := Lib.hid (List.all_eq_true.1 hfas)
 have GWS := Lib.hid (List.all_eq_true.1 hfw)
 have GRD := Lib.hid hfr
 have GLI := Lib.hid (List.all_eq_true.1 hfl)
 have GLN := Lib.hid (List.all_eq_true.1 hfn)
 have GAR := Lib.hid (List.all_eq_true.1 hfa)
 have GSH := Lib.hid hsh
 have GKB := Lib.hid hkb
 have HT := Lib.hid hT
 have HLN := Lib.hid hLn
 have HLS := Lib.hid hLs
 have HND := Lib.hid hNd
 have HK := Lib.hid hk
 obtain ⟨a9, c9, rfl⟩ := h.shape
 obtain ⟨n0, hn0⟩ : ∃ n, ds0.length = n := ⟨_, rfl⟩
 rw [hk]
 have HB0 := Lib.hid (BW.start2 h 64 #[.int .i64 1, .string x.name, .slice a1 n1 c1, .slice a2 n2 c2, .slice a3 n3 c3, .slice a4 n4 c4, .slice a5 n5 c5])
 rw [hn0] at HB0 ⊢
 obtain ⟨s0, hs0⟩ : ∃ s, stOf out0 ds0 = s := ⟨_, rfl⟩
 have HS0 := Lib.hid hs0
 rw [hs0] at hlen ⊢
 have HLEN := Lib.hid hlen
 clear hl1 hl2 hl3 hl4 hl5 hAs hWs hRd hLs0 hAr hfas hfw hfr hfl hfn hfa hsh hkb hT hLn hLs hNd hk h hc hn0 hs0 hlen
 obtain ⟨sa, hsa⟩ : ∃ s, assignsS (levS d).1 s0 x.assigns false = s := ⟨_, rfl⟩
 obtain ⟨sw, hsw⟩ : ∃ s, wordsS (levS d).1 sa x.words (!x.assigns.isEmpty) = s := ⟨_, rfl⟩
 have hr : simpleS (levS d).1 s0 x = redirsS (levS d).1 sw x.redirs (!(x.assigns.isEmpty && x.words.isEmpty)) := by rw [simple_eq2, hsa, hsw]
 have HRE := Lib.hid hr
 have HLR : Hid ((redirsS (levS d).1 sw x.redirs (!(x.assigns.isEmpty && x.words.isEmpty))).1.length ≤ lim) := Lib.hid (by rw [← hr]; exact HLEN.out)
 have HLW : Hid (sw.1.length ≤ lim) := Lib.hid (Nat.le_trans (redirsS_grow (levS_grow d).1 _ _ _) HLR.out)
 have HLA : Hid (sa.1.length ≤ lim) := Lib.hid (Nat.le_trans (by rw [← hsw]; exact wordsS_grow (levS_grow d).1 _ _ _) HLW.out)
 have HLAT : Hid (∀ k, (assignsS (levS d).1 s0 (x.assigns.take k) false).1.length ≤ lim) := Lib.hid fun k => Nat.le_trans (assigns_take_le (levS_grow d).1 _ _ _ k) (by rw [hsa]; exact HLA.out)
 have HLWT : Hid (∀ k, (wordsS (levS d).1 sa (x.words.take k) (!x.assigns.isEmpty)).1.length ≤ lim) := Lib.hid fun k => Nat.le_trans (words_take_le (levS_grow d).1 _ _ _ k) (by rw [hsw]; exact HLW.out)
 have HSA := Lib.hid hsa
 have HSW := Lib.hid hsw
 clear hr hsa hsw HLEN
 go_enter Tryz.func63, Tryz.ntmps63
 go_upto_region 1 with fail
 obtain ⟨V, hV⟩ : ∃ V, V = ((w.alloc (.cells #[.string (S out0), .slice a9 n0 c9] 87)).alloc (.cells #[.int .i64 1, .string x.name, .slice a1 n1 c1, .slice a2 n2 c2, .slice a3 n3 c3, .slice a4 n4 c4, .slice a5 n5 c5] 64)).alloc (.cells #[.string ⟨#[]⟩, .slice none 0 0] 87) := ⟨_, rfl⟩
 have HNB : Hid (Blk V (w.heap.size + 1) 64 #[.int .i64 1, .string x.name, .slice a1 n1 c1, .slice a2 n2 c2, .slice a3 n3 c3, .slice a4 n4 c4, .slice a5 n5 c5]) := Lib.hid (by rw [hV]; exact (Blk.at (by simp)).alloc _)
 rw [← hV] at HB0 ⊢
 clear hV
 have HX0 : Hid (InX w V B 64 #[.int .i64 1, .string x.name, .slice a1 n1 c1, .slice a2 n2 c2, .slice a3 n3 c3, .slice a4 n4 c4, .slice a5 n5 c5] s0) := Lib.hid ⟨⟨_, _, _, HB0.out, HS0.out⟩, HNB.out⟩
 obtain ⟨x0, x1, x2, x3, x4, x5, x6, xl⟩ := HNB.out.box7
 go_wp2_with fail
 clear x0 x1 x2 x3 x4 x5 x6 xl
 obtain ⟨nc, hnc⟩ : ∃ nc : Array Value, nc = #[.int .i64 1, .string x.name, .slice a1 n1 c1, .slice a2 n2 c2, .slice a3 n3 c3, .slice a4 n4 c4, .slice a5 n5 c5] := ⟨_, rfl⟩
 rw [← hnc] at HX0
 have HNC := Lib.hid hnc
 clear hnc HNB HB0
 go_loopw [5, 6] (fun t i V => ∃ (k : Nat), k ≤ n1 ∧ i = .int .i64 k ∧ t = .string (blankS (decide (0 < k))) ∧ InX w V B 64 nc (assignsS (levS d).1 s0 (x.assigns.take k) false)) (fun _ i _ => n1 - (intOf i).toNat)
 case atStart => exact ⟨0, Nat.zero_le _, rfl, rfl, HX0.out⟩
 case round =>
  obtain ⟨k, hk, rfl, rfl, hb⟩ := hrel
  obtain ⟨da1, nd1, dc1, q1, ds1, hb1, hst1, hnd1, hak1⟩ := hb.open
  have HB1 := Lib.hid hb1
  have HST1 := Lib.hid hst1
  have HAK1 := Lib.hid hak1
  clear hb1 hst1 hnd1 hak1
  have HX := Lib.hid (HNC.out ▸ HAK1.out)
  obtain ⟨x0, x1, x2, x3, x4, x5, x6, xl⟩ := HX.out.box7
  obtain ⟨bs, hbs⟩ : ∃ b, blankS (decide (0 < k)) = b := ⟨_, rfl⟩
  have hbz : bs.size ≤ 1 := by rw [← hbs]; exact blankS_size _
  rw [hbs]
  have HBS := Lib.hid hbs
  clear hbs
  by_cases hlt : k < n1
  · obtain ⟨y, hy⟩ : ∃ y, x.assigns[k]? = .some y := ⟨_, List.getElem?_eq_getElem (by rw [N1.out]; exact hlt)⟩
    obtain ⟨b, o, c, hi, hbB, hce, ⟨hyz, yv, rfl, hyp⟩, _⟩ := HAS.out.at 58 98 Tryz.underlying58 (by kernel_rfl) hy
    obtain ⟨a6, c6, rfl, _⟩ := hyp.shape
    have hbw := Nat.lt_of_lt_of_le hbB hBw
    have HLO := Lib.hid HB1.out.low
    have e0 := (HLO.out.cell hbw).trans (hce 0 _ rfl)
    have e1 := (HLO.out.cell hbw).trans (hce 1 _ rfl)
    have hbr : b < wr.heap.size := Nat.lt_of_lt_of_le hbw HLO.out.size
    rw [Nat.add_zero] at e0
    have hbg : b ≠ w.heap.size := by omega
    have HGY := Lib.hid (GAS.out y (List.mem_of_getElem? hy))
    have HS : Hid (assignsS (levS d).1 s0 (x.assigns.take (k + 1)) false = putS (stOf q1 ds1) (L bs ++ (L y.name ++ [61] ++ txtS d y.word))) := Lib.hid (by
     rw [take_snoc' hy, assigns_snoc, ← HST1.out, take_empty (by rw [N1.out]; exact hlt), Bool.false_or, levS_word, putS_put, nextS_put, HBS.out])
    have HLX : Hid ((putS (stOf q1 ds1) (L bs ++ (L y.name ++ [61] ++ txtS d y.word))).1.length ≤ lim) := Lib.hid (by rw [← HS.out]; exact HLAT.out (k + 1))
    have hlt2 : (txtS d y.word).length ≤ lim := by
     have := HLX.out
     simp only [putS, List.length_append] at this
     omega
    have CT : Hid (∀ V, Below wr.heap.size wr V → Calls Tryz.prog 84 #[.slice a6 y.word.length c6] V fun e w' => e = .returned (.string (S (txtS d y.word))) ∧ Below V.heap.size V w') := Lib.hid fun V hV =>
     HT.out V _ _ (by have := hV.size; have := HLO.out.size; omega) (hyp.below ((HLO.out.trans (hV.mono HLO.out.size)).mono hBw)) HGY.out hlt2
    obtain ⟨ny, hny⟩ : ∃ t, y.word.length = t := ⟨_, rfl⟩
    rw [hny] at CT e1
    obtain ⟨tw, htw⟩ : ∃ t, txtS d y.word = t := ⟨_, rfl⟩
    rw [htw] at CT HLX HS hlt2
    obtain ⟨yn, hyn⟩ : ∃ t, y.name = t := ⟨_, rfl⟩
    rw [hyn] at HLX HS hyz e0
    unfold lim at hlt2
    unfold bigN at hyz
    have htz : (S tw).size ≤ 1099511627776 := hlt2
    have k1 : ∀ V : World, (Op.stringOp .add bs yn).run Tryz.prog V = .ok (.string (bs ++ yn)) V := fun V => run_string_add_sum V _ _ (by omega)
    have k2 : ∀ V : World, (Op.stringOp .add (bs ++ yn) ⟨#[61]⟩).run Tryz.prog V = .ok (.string (bs ++ yn ++ ⟨#[61]⟩)) V := fun V => run_string_add_sum V _ _ (by simp; omega)
    have k3 : ∀ V : World, (Op.stringOp .add (bs ++ yn ++ ⟨#[61]⟩) (S tw)).run Tryz.prog V = .ok (.string (bs ++ yn ++ ⟨#[61]⟩ ++ S tw)) V := fun V => run_string_add_sum V _ _ (by simp; omega)
    have hLT : L (bs ++ yn ++ ⟨#[61]⟩ ++ S tw) = L bs ++ (L yn ++ [61] ++ tw) := by simp [L_append, L_S]
    have CP : Hid (∀ V, Below wr.heap.size wr V → Calls Tryz.prog 83 #[.agg #[.string (S q1), .slice da1 nd1 dc1], .string (bs ++ yn ++ ⟨#[61]⟩ ++ S tw)] V (RS V B (putS (stOf q1 ds1) (L bs ++ (L yn ++ [61] ++ tw))))) := Lib.hid fun V hV => by
     have := put_at B V _ q1 ds1 (bs ++ yn ++ ⟨#[61]⟩ ++ S tw) (HB1.out.rw.below hV) (put_len (s := stOf q1 ds1) (ds := ds1) rfl (by rw [hLT]; exact HLX.out))
     rwa [hLT] at this
    obtain ⟨tt, htt⟩ : ∃ t, bs ++ yn ++ ⟨#[61]⟩ ++ S tw = t := ⟨_, rfl⟩
    rw [htt] at CP
    simp only [htt] at k3
    obtain ⟨st, hst⟩ : ∃ t, S tw = t := ⟨_, rfl⟩
    rw [hst] at CT
    simp only [hst] at k3
    clear hy hce hyp hny htw hyn htt hst hLT hlt2 htz HLX
    go_wp2_with fail
    obtain ⟨p0, p1, pf, pg, pl, pr0, pr1, prf, prg, prl⟩ := HB1.out.boxw
    clear x0 x1 x3 x4 x5 x6
    refine wp_region_held_drew (S := fun w' => w'.cell? ⟨w.heap.size + 1, 2, none⟩ = some (.slice a1 n1 c1) ∧ w'.cell? ⟨b, o, none⟩ = some (.string yn) ∧ w'.cell? ⟨b, o + 1, none⟩ = some (.slice a6 ny c6)) (by kernel_rfl) ?_ (fun hHeld => ?_)
    · exact ⟨x2, e0, e1⟩
    refine tk 1 ?_
    refine tk 2 ?_
    refine tk 3 ?_
    refine tk 4 ?_
    refine tk 5 ?_
    refine tk 6 ?_
    refine tk 7 ?_
    refine tk 8 ?_
    try simp only [Act.put, List.getElem_toArray, List.getElem_cons_zero, List.getElem_cons_succ, List.setIfInBounds_toArray, List.set_cons_zero, List.set_cons_succ]
    refine tk 9 ?_
    refine tk 10 ?_
    refine tk 11 ?_
    refine tk 12 ?_
    refine tk 13 ?_
    refine tk 14 ?_
    refine tk 15 ?_
    try simp only [Act.put, List.getElem_toArray, List.getElem_cons_zero, List.getElem_cons_succ, List.setIfInBounds_toArray, List.set_cons_zero, List.set_cons_succ]
    refine wpAnyH_ready (rs := [0, 16]) (by kernel_rfl) (by simp) ?_
    refine AllReadyH.cons rfl (fun K hK => ?_) (AllReadyH.cons rfl (fun K hK => ?_) AllReadyH.nil)
    · go_simp
      refine hK.out _ _ ?_ (fun hHeld => ?_)
      · exact ⟨x2, e0, e1⟩
      clear hK K
      try simp only [Act.put, List.getElem_toArray, List.getElem_cons_zero, List.getElem_cons_succ, List.setIfInBounds_toArray, List.set_cons_zero, List.set_cons_succ]
      refine wpAnyH_ready (rs := [16]) (by kernel_rfl) (by simp) ?_
      refine AllReadyH.cons rfl (fun K hK => ?_) AllReadyH.nil
      go_simp
      go_at_call 84
      refine (CT.out _ (Below.drew (Below.refl _ _))).mono ?_
      rintro e v1 ⟨rfl, hv1⟩
      have HBV : Hid (Below wr.heap.size wr v1) := Lib.hid (((Below.refl _ _).drew).trans (show Below wr.heap.size wr.drew v1 from hv1))
      clear hv1
      go_wp2_with fail
      refine hK.out _ _ ?_ (fun hHeld => ?_)
      · exact ⟨(HBV.out.cell xl).trans x2, (HBV.out.cell hbr).trans e0, (HBV.out.cell hbr).trans e1⟩
      clear hK K
      try simp only [Act.put, List.getElem_toArray, List.getElem_cons_zero, List.getElem_cons_succ, List.setIfInBounds_toArray, List.set_cons_zero, List.set_cons_succ]
      refine tk 17 ?_
      try simp only [Act.put, List.getElem_toArray, List.getElem_cons_zero, List.getElem_cons_succ, List.setIfInBounds_toArray, List.set_cons_zero, List.set_cons_succ]
      refine wpAnyH_ready (rs := [18]) (by kernel_rfl) (by simp) ?_
      refine AllReadyH.cons rfl (fun K hK => ?_) AllReadyH.nil
      go_simp
      go_at_call 83
      refine (CP.out _ HBV.out).mono ?_
      rintro e w3 hrs
      obtain ⟨dv3, q3, ds3, rfl, hs3, hr3, hb3⟩ := hrs.st
      obtain ⟨a3, c3, rfl⟩ := hr3.shape
      have HB3 := Lib.hid (HBV.out.trans (hb3.mono HBV.out.size))
      have HR3 := Lib.hid hr3
      have HS3 := Lib.hid hs3
      obtain ⟨n3, hn3⟩ : ∃ n, ds3.length = n := ⟨_, rfl⟩
      rw [hn3] at HR3 ⊢
      have HN3 := Lib.hid hn3
      clear hrs hr3 hs3 hb3 hn3
      have HK3 := Lib.hid (HB1.out.later HB3.out)
      clear p0 p1 pf pg pl pr0 pr1 prf prg prl
      obtain ⟨p0, p1, pf, pg, pl, pr0, pr1, prf, prg, prl⟩ := HK3.out.boxw
      go_wp2_with fail
      refine hK.out _ _ ?_ (fun hHeld => ?_)
      · exact ⟨(HB3.out.cell xl).trans x2, (HB3.out.cell hbr).trans e0, (HB3.out.cell hbr).trans e1⟩
      clear hK K
      try simp only [Act.put, List.getElem_toArray, List.getElem_cons_zero, List.getElem_cons_succ, List.setIfInBounds_toArray, List.set_cons_zero, List.set_cons_succ]
      refine wpAnyH_ready (rs := [19]) (by kernel_rfl) (by simp) ?_
      refine AllReadyH.cons rfl (fun K hK => ?_) AllReadyH.nil
      go_simp
      refine hK.out _ _ ?_ (fun hHeld => ?_)
      · exact ⟨cell_far2 ((HB3.out.cell xl).trans x2) (by omega), cell_far2 ((HB3.out.cell hbr).trans e0) hbg, cell_far2 ((HB3.out.cell hbr).trans e1) hbg⟩
      clear hK K
      try simp only [Act.put, List.getElem_toArray, List.getElem_cons_zero, List.getElem_cons_succ, List.setIfInBounds_toArray, List.set_cons_zero, List.set_cons_succ]
      refine wpAnyH_done (by kernel_rfl) ?_ _
      have HE3 := Lib.hid (HB1.out.putX HAK1.out HB3.out HR3.out HS3.out)
      clear p0 p1 pf pg pl pr0 pr1 prf prg prl
      clear hHeld
      go_wp2_with fail
      go_roundw
      case rel => exact ⟨k + 1, by omega, by go_num, by rw [show decide (0 < k + 1) = true by simp]; rfl, by rw [HS.out]; exact HE3.out⟩
      case measure => simp [intOf]; omega
    · go_simp
      go_at_call 84
      refine (CT.out _ (Below.drew (Below.refl _ _))).mono ?_
      rintro e v1 ⟨rfl, hv1⟩
      have HBV : Hid (Below wr.heap.size wr v1) := Lib.hid (((Below.refl _ _).drew).trans (show Below wr.heap.size wr.drew v1 from hv1))
      clear hv1
      go_wp2_with fail
      refine hK.out _ _ ?_ (fun hHeld => ?_)
      · exact ⟨(HBV.out.cell xl).trans x2, (HBV.out.cell hbr).trans e0, (HBV.out.cell hbr).trans e1⟩
      clear hK K
      try simp only [Act.put, List.getElem_toArray, List.getElem_cons_zero, List.getElem_cons_succ, List.setIfInBounds_toArray, List.set_cons_zero, List.set_cons_succ]
      refine tk 17 ?_
      try simp only [Act.put, List.getElem_toArray, List.getElem_cons_zero, List.getElem_cons_succ, List.setIfInBounds_toArray, List.set_cons_zero, List.set_cons_succ]
      have HKV := Lib.hid (HB1.out.later HBV.out)
      clear p0 p1 pf pg pl pr0 pr1 prf prg prl
      obtain ⟨p0, p1, pf, pg, pl, pr0, pr1, prf, prg, prl⟩ := HKV.out.boxw
      refine wpAnyH_ready (rs := [0]) (by kernel_rfl) (by simp) ?_
      refine AllReadyH.cons rfl (fun K hK => ?_) AllReadyH.nil
      go_simp
      refine hK.out _ _ ?_ (fun hHeld => ?_)
      · exact ⟨(HBV.out.cell xl).trans x2, (HBV.out.cell hbr).trans e0, (HBV.out.cell hbr).trans e1⟩
      clear hK K
      try simp only [Act.put, List.getElem_toArray, List.getElem_cons_zero, List.getElem_cons_succ, List.setIfInBounds_toArray, List.set_cons_zero, List.set_cons_succ]
      refine wpAnyH_ready (rs := [18]) (by kernel_rfl) (by simp) ?_
      refine AllReadyH.cons rfl (fun K hK => ?_) AllReadyH.nil
      go_simp
      go_at_call 83
      refine (CP.out _ HBV.out).mono ?_
      rintro e w3 hrs
      obtain ⟨dv3, q3, ds3, rfl, hs3, hr3, hb3⟩ := hrs.st
      obtain ⟨a3, c3, rfl⟩ := hr3.shape
      have HB3 := Lib.hid (HBV.out.trans (hb3.mono HBV.out.size))
      have HR3 := Lib.hid hr3
      have HS3 := Lib.hid hs3
      obtain ⟨n3, hn3⟩ : ∃ n, ds3.length = n := ⟨_, rfl⟩
      rw [hn3] at HR3 ⊢
      have HN3 := Lib.hid hn3
      clear hrs hr3 hs3 hb3 hn3
      have HK3 := Lib.hid (HB1.out.later HB3.out)
      clear p0 p1 pf pg pl pr0 pr1 prf prg prl
      obtain ⟨p0, p1, pf, pg, pl, pr0, pr1, prf, prg, prl⟩ := HK3.out.boxw
      go_wp2_with fail
      refine hK.out _ _ ?_ (fun hHeld => ?_)
      · exact ⟨(HB3.out.cell xl).trans x2, (HB3.out.cell hbr).trans e0, (HB3.out.cell hbr).trans e1⟩
      clear hK K
      try simp only [Act.put, List.getElem_toArray, List.getElem_cons_zero, List.getElem_cons_succ, List.setIfInBounds_toArray, List.set_cons_zero, List.set_cons_succ]
      refine wpAnyH_ready (rs := [19]) (by kernel_rfl) (by simp) ?_
      refine AllReadyH.cons rfl (fun K hK => ?_) AllReadyH.nil
      go_simp
      refine hK.out _ _ ?_ (fun hHeld => ?_)
      · exact ⟨cell_far2 ((HB3.out.cell xl).trans x2) (by omega), cell_far2 ((HB3.out.cell hbr).trans e0) hbg, cell_far2 ((HB3.out.cell hbr).trans e1) hbg⟩
      clear hK K
      try simp only [Act.put, List.getElem_toArray, List.getElem_cons_zero, List.getElem_cons_succ, List.setIfInBounds_toArray, List.set_cons_zero, List.set_cons_succ]
      refine wpAnyH_done (by kernel_rfl) ?_ _
      have HE3 := Lib.hid (HB1.out.putX HAK1.out HB3.out HR3.out HS3.out)
      clear p0 p1 pf pg pl pr0 pr1 prf prg prl
      clear hHeld
      go_wp2_with fail
      go_roundw
      case rel => exact ⟨k + 1, by omega, by go_num, by rw [show decide (0 < k + 1) = true by simp]; rfl, by rw [HS.out]; exact HE3.out⟩
      case measure => simp [intOf]; omega
  · have HSAE : Hid (stOf q1 ds1 = sa) := Lib.hid (by rw [HST1.out, List.take_of_length_le (by rw [N1.out]; omega), HSA.out])
    have HBE : Hid (bs = blankS (!x.assigns.isEmpty || decide (0 < 0))) := Lib.hid (by
     rw [← HBS.out]
     have h1 := N1.out
     cases hq : x.assigns with
     | nil => rw [hq] at h1; simp at h1; rw [show decide (0 < k) = false by simp; omega]; rfl
     | cons y l => rw [hq] at h1; simp at h1; rw [show decide (0 < k) = true by simp; omega]; rfl)
    have HXA : Hid (InX w wr B 64 nc sa) := Lib.hid ⟨⟨_, q1, ds1, HB1.out, HSAE.out⟩, HAK1.out⟩
    go_wp2_with fail
    clear x0 x1 x2 x3 x4 x5 x6 xl
    go_loopw [5, 7] (fun t i V => ∃ (j : Nat), j ≤ n2 ∧ i = .int .i64 j ∧ t = .string (blankS (!x.assigns.isEmpty || decide (0 < j))) ∧ InX w V B 64 nc (wordsS (levS d).1 sa (x.words.take j) (!x.assigns.isEmpty))) (fun _ i _ => n2 - (intOf i).toNat)
    case atStart => exact ⟨0, Nat.zero_le _, rfl, by rw [HBE.out], HXA.out⟩
    case round =>
     clear HB1 HST1 HAK1 HX HXA HSAE HBE HBS
     obtain ⟨j, hj, rfl, rfl, hb⟩ := hrel
     obtain ⟨da1, nd1, dc1, q1, ds1, hb1, hst1, hnd1, hak1⟩ := hb.open
     have HB1 := Lib.hid hb1
     have HST1 := Lib.hid hst1
     have HAK1 := Lib.hid hak1
     clear hb1 hst1 hnd1 hak1
     have HX := Lib.hid (HNC.out ▸ HAK1.out)
     obtain ⟨x0, x1, x2, x3, x4, x5, x6, xl⟩ := HX.out.box7
     obtain ⟨bs, hbs⟩ : ∃ b, blankS (!x.assigns.isEmpty || decide (0 < j)) = b := ⟨_, rfl⟩
     have hbz : bs.size ≤ 1 := by rw [← hbs]; exact blankS_size _
     have HBS := Lib.hid hbs
     rw [hbs]
     clear hbs
     by_cases hlt2 : j < n2
     · obtain ⟨y, hy⟩ : ∃ y, x.words[j]? = .some y := ⟨_, List.getElem?_eq_getElem (by rw [N2.out]; exact hlt2)⟩
       obtain ⟨b, o, c, hi, hbB, hce, ⟨yv, rfl, hyp⟩, _⟩ := HWS.out.at 59 41 Tryz.underlying59 (by kernel_rfl) hy
       obtain ⟨a6, c6, rfl, _⟩ := hyp.shape
       have hbw := Nat.lt_of_lt_of_le hbB hBw
       have HLO := Lib.hid HB1.out.low
       have e0 := (HLO.out.cell hbw).trans (hce 0 _ rfl)
       have hbr : b < wr.heap.size := Nat.lt_of_lt_of_le hbw HLO.out.size
       rw [Nat.add_zero] at e0
       have hbg : b ≠ w.heap.size := by omega
       have HGY := Lib.hid (GWS.out y (List.mem_of_getElem? hy))
       have HS : Hid (wordsS (levS d).1 sa (x.words.take (j + 1)) (!x.assigns.isEmpty) = putS (stOf q1 ds1) (L bs ++ txtS d y)) := Lib.hid (by
        rw [take_snoc' hy, words_snoc, ← HST1.out, take_empty (by rw [N2.out]; exact hlt2), levS_word, nextS_put, HBS.out])
       have HLX : Hid ((putS (stOf q1 ds1) (L bs ++ txtS d y)).1.length ≤ lim) := Lib.hid (by rw [← HS.out]; exact HLWT.out (j + 1))
       have htl : (txtS d y).length ≤ lim := by
        have := HLX.out
        simp only [putS, List.length_append] at this
        omega
       have CT : Hid (∀ V, Below wr.heap.size wr V → Calls Tryz.prog 84 #[.slice a6 y.length c6] V fun e w' => e = .returned (.string (S (txtS d y))) ∧ Below V.heap.size V w') := Lib.hid fun V hV =>
        HT.out V _ _ (by have := hV.size; have := HLO.out.size; omega) (hyp.below ((HLO.out.trans (hV.mono HLO.out.size)).mono hBw)) HGY.out htl
       obtain ⟨ny, hny⟩ : ∃ t, y.length = t := ⟨_, rfl⟩
       rw [hny] at CT e0
       obtain ⟨tw, htw⟩ : ∃ t, txtS d y = t := ⟨_, rfl⟩
       rw [htw] at CT HLX HS htl
       unfold lim at htl
       have htz : (S tw).size ≤ 1099511627776 := htl
       have k1 : ∀ V : World, (Op.stringOp .add bs (S tw)).run Tryz.prog V = .ok (.string (bs ++ S tw)) V := fun V => run_string_add_sum V _ _ (by omega)
       have hLT : L (bs ++ S tw) = L bs ++ tw := by simp [L_append, L_S]
       have CP : Hid (∀ V, Below wr.heap.size wr V → Calls Tryz.prog 83 #[.agg #[.string (S q1), .slice da1 nd1 dc1], .string (bs ++ S tw)] V (RS V B (putS (stOf q1 ds1) (L bs ++ tw)))) := Lib.hid fun V hV => by
        have := put_at B V _ q1 ds1 (bs ++ S tw) (HB1.out.rw.below hV) (put_len (s := stOf q1 ds1) (ds := ds1) rfl (by rw [hLT]; exact HLX.out))
        rwa [hLT] at this
       obtain ⟨tt, htt⟩ : ∃ t, bs ++ S tw = t := ⟨_, rfl⟩
       rw [htt] at CP
       simp only [htt] at k1
       obtain ⟨st, hst⟩ : ∃ t, S tw = t := ⟨_, rfl⟩
       rw [hst] at CT
       simp only [hst] at k1
       clear hy hce hyp hny htw htt hst hLT htl htz HLX
       go_wp2_with fail
       obtain ⟨p0, p1, pf, pg, pl, pr0, pr1, prf, prg, prl⟩ := HB1.out.boxw
       clear x0 x1 x2 x4 x5 x6
       refine wp_region_held_drew (S := fun w' => w'.cell? ⟨w.heap.size + 1, 3, none⟩ = some (.slice a2 n2 c2) ∧ w'.cell? ⟨b, o, none⟩ = some (.slice a6 ny c6)) (by kernel_rfl) ?_ (fun hHeld => ?_)
       · exact ⟨x3, e0⟩
       refine tk 1 ?_
       refine tk 2 ?_
       refine tk 3 ?_
       refine tk 4 ?_
       refine tk 5 ?_
       refine tk 6 ?_
       try simp only [Act.put, List.getElem_toArray, List.getElem_cons_zero, List.getElem_cons_succ, List.setIfInBounds_toArray, List.set_cons_zero, List.set_cons_succ]
       refine wpAnyH_ready (rs := [0, 7]) (by kernel_rfl) (by simp) ?_
       refine AllReadyH.cons rfl (fun K hK => ?_) (AllReadyH.cons rfl (fun K hK => ?_) AllReadyH.nil)
       · go_simp
         refine hK.out _ _ ?_ (fun hHeld => ?_)
         · exact ⟨x3, e0⟩
         clear hK K
         try simp only [Act.put, List.getElem_toArray, List.getElem_cons_zero, List.getElem_cons_succ, List.setIfInBounds_toArray, List.set_cons_zero, List.set_cons_succ]
         refine wpAnyH_ready (rs := [7]) (by kernel_rfl) (by simp) ?_
         refine AllReadyH.cons rfl (fun K hK => ?_) AllReadyH.nil
         go_simp
         go_at_call 84
         refine (CT.out _ (Below.drew (Below.refl _ _))).mono ?_
         rintro e v1 ⟨rfl, hv1⟩
         have HBV : Hid (Below wr.heap.size wr v1) := Lib.hid (((Below.refl _ _).drew).trans (show Below wr.heap.size wr.drew v1 from hv1))
         clear hv1
         go_wp2_with fail
         refine hK.out _ _ ?_ (fun hHeld => ?_)
         · exact ⟨(HBV.out.cell xl).trans x3, (HBV.out.cell hbr).trans e0⟩
         clear hK K
         try simp only [Act.put, List.getElem_toArray, List.getElem_cons_zero, List.getElem_cons_succ, List.setIfInBounds_toArray, List.set_cons_zero, List.set_cons_succ]
         refine tk 8 ?_
         try simp only [Act.put, List.getElem_toArray, List.getElem_cons_zero, List.getElem_cons_succ, List.setIfInBounds_toArray, List.set_cons_zero, List.set_cons_succ]
         refine wpAnyH_ready (rs := [9]) (by kernel_rfl) (by simp) ?_
         refine AllReadyH.cons rfl (fun K hK => ?_) AllReadyH.nil
         go_simp
         go_at_call 83
         refine (CP.out _ HBV.out).mono ?_
         rintro e w3 hrs
         obtain ⟨dv3, q3, ds3, rfl, hs3, hr3, hb3⟩ := hrs.st
         obtain ⟨a3, c3, rfl⟩ := hr3.shape
         have HB3 := Lib.hid (HBV.out.trans (hb3.mono HBV.out.size))
         have HR3 := Lib.hid hr3
         have HS3 := Lib.hid hs3
         obtain ⟨n3, hn3⟩ : ∃ n, ds3.length = n := ⟨_, rfl⟩
         rw [hn3] at HR3 ⊢
         have HN3 := Lib.hid hn3
         clear hrs hr3 hs3 hb3 hn3
         have HK3 := Lib.hid (HB1.out.later HB3.out)
         clear p0 p1 pf pg pl pr0 pr1 prf prg prl
         obtain ⟨p0, p1, pf, pg, pl, pr0, pr1, prf, prg, prl⟩ := HK3.out.boxw
         go_wp2_with fail
         refine hK.out _ _ ?_ (fun hHeld => ?_)
         · exact ⟨(HB3.out.cell xl).trans x3, (HB3.out.cell hbr).trans e0⟩
         clear hK K
         try simp only [Act.put, List.getElem_toArray, List.getElem_cons_zero, List.getElem_cons_succ, List.setIfInBounds_toArray, List.set_cons_zero, List.set_cons_succ]
         refine wpAnyH_ready (rs := [10]) (by kernel_rfl) (by simp) ?_
         refine AllReadyH.cons rfl (fun K hK => ?_) AllReadyH.nil
         go_simp
         refine hK.out _ _ ?_ (fun hHeld => ?_)
         · exact ⟨cell_far2 ((HB3.out.cell xl).trans x3) (by omega), cell_far2 ((HB3.out.cell hbr).trans e0) hbg⟩
         clear hK K
         try simp only [Act.put, List.getElem_toArray, List.getElem_cons_zero, List.getElem_cons_succ, List.setIfInBounds_toArray, List.set_cons_zero, List.set_cons_succ]
         refine wpAnyH_done (by kernel_rfl) ?_ _
         have HE3 := Lib.hid (HB1.out.putX HAK1.out HB3.out HR3.out HS3.out)
         clear p0 p1 pf pg pl pr0 pr1 prf prg prl
         clear hHeld
         go_wp2_with fail
         go_roundw
         case rel => exact ⟨j + 1, by omega, by go_num, by rw [show decide (0 < j + 1) = true by simp, Bool.or_true]; rfl, by rw [HS.out]; exact HE3.out⟩
         case measure => simp [intOf]; omega
       · go_simp
         go_at_call 84
         refine (CT.out _ (Below.drew (Below.refl _ _))).mono ?_
         rintro e v1 ⟨rfl, hv1⟩
         have HBV : Hid (Below wr.heap.size wr v1) := Lib.hid (((Below.refl _ _).drew).trans (show Below wr.heap.size wr.drew v1 from hv1))
         clear hv1
         go_wp2_with fail
         refine hK.out _ _ ?_ (fun hHeld => ?_)
         · exact ⟨(HBV.out.cell xl).trans x3, (HBV.out.cell hbr).trans e0⟩
         clear hK K
         try simp only [Act.put, List.getElem_toArray, List.getElem_cons_zero, List.getElem_cons_succ, List.setIfInBounds_toArray, List.set_cons_zero, List.set_cons_succ]
         refine tk 8 ?_
         try simp only [Act.put, List.getElem_toArray, List.getElem_cons_zero, List.getElem_cons_succ, List.setIfInBounds_toArray, List.set_cons_zero, List.set_cons_succ]
         have HKV := Lib.hid (HB1.out.later HBV.out)
         clear p0 p1 pf pg pl pr0 pr1 prf prg prl
         obtain ⟨p0, p1, pf, pg, pl, pr0, pr1, prf, prg, prl⟩ := HKV.out.boxw
         refine wpAnyH_ready (rs := [0]) (by kernel_rfl) (by simp) ?_
         refine AllReadyH.cons rfl (fun K hK => ?_) AllReadyH.nil
         go_simp
         refine hK.out _ _ ?_ (fun hHeld => ?_)
         · exact ⟨(HBV.out.cell xl).trans x3, (HBV.out.cell hbr).trans e0⟩
         clear hK K
         try simp only [Act.put, List.getElem_toArray, List.getElem_cons_zero, List.getElem_cons_succ, List.setIfInBounds_toArray, List.set_cons_zero, List.set_cons_succ]
         refine wpAnyH_ready (rs := [9]) (by kernel_rfl) (by simp) ?_
         refine AllReadyH.cons rfl (fun K hK => ?_) AllReadyH.nil
         go_simp
         go_at_call 83
         refine (CP.out _ HBV.out).mono ?_
         rintro e w3 hrs
         obtain ⟨dv3, q3, ds3, rfl, hs3, hr3, hb3⟩ := hrs.st
         obtain ⟨a3, c3, rfl⟩ := hr3.shape
         have HB3 := Lib.hid (HBV.out.trans (hb3.mono HBV.out.size))
         have HR3 := Lib.hid hr3
         have HS3 := Lib.hid hs3
         obtain ⟨n3, hn3⟩ : ∃ n, ds3.length = n := ⟨_, rfl⟩
         rw [hn3] at HR3 ⊢
         have HN3 := Lib.hid hn3
         clear hrs hr3 hs3 hb3 hn3
         have HK3 := Lib.hid (HB1.out.later HB3.out)
         clear p0 p1 pf pg pl pr0 pr1 prf prg prl
         obtain ⟨p0, p1, pf, pg, pl, pr0, pr1, prf, prg, prl⟩ := HK3.out.boxw
         go_wp2_with fail
         refine hK.out _ _ ?_ (fun hHeld => ?_)
         · exact ⟨(HB3.out.cell xl).trans x3, (HB3.out.cell hbr).trans e0⟩
         clear hK K
         try simp only [Act.put, List.getElem_toArray, List.getElem_cons_zero, List.getElem_cons_succ, List.setIfInBounds_toArray, List.set_cons_zero, List.set_cons_succ]
         refine wpAnyH_ready (rs := [10]) (by kernel_rfl) (by simp) ?_
         refine AllReadyH.cons rfl (fun K hK => ?_) AllReadyH.nil
         go_simp
         refine hK.out _ _ ?_ (fun hHeld => ?_)
         · exact ⟨cell_far2 ((HB3.out.cell xl).trans x3) (by omega), cell_far2 ((HB3.out.cell hbr).trans e0) hbg⟩
         clear hK K
         try simp only [Act.put, List.getElem_toArray, List.getElem_cons_zero, List.getElem_cons_succ, List.setIfInBounds_toArray, List.set_cons_zero, List.set_cons_succ]
         refine wpAnyH_done (by kernel_rfl) ?_ _
         have HE3 := Lib.hid (HB1.out.putX HAK1.out HB3.out HR3.out HS3.out)
         clear p0 p1 pf pg pl pr0 pr1 prf prg prl
         clear hHeld
         go_wp2_with fail
         go_roundw
         case rel => exact ⟨j + 1, by omega, by go_num, by rw [show decide (0 < j + 1) = true by simp, Bool.or_true]; rfl, by rw [HS.out]; exact HE3.out⟩
         case measure => simp [intOf]; omega
     · have HSWE : Hid (sw = stOf q1 ds1) := Lib.hid (by rw [HST1.out, List.take_of_length_le (by rw [N2.out]; omega), HSW.out])
       obtain ⟨qq, hqq⟩ : ∃ b, (!(x.assigns.isEmpty && x.words.isEmpty)) = b := ⟨_, rfl⟩
       have HBE : Hid (bs = blankS qq) := Lib.hid (by
        rw [← HBS.out, ← hqq]
        have h1 := N2.out
        cases hq : x.words with
        | nil => rw [hq] at h1; simp at h1; rw [show decide (0 < j) = false by simp; omega]; cases x.assigns.isEmpty <;> rfl
        | cons y l => rw [hq] at h1; simp at h1; rw [show decide (0 < j) = true by simp; omega]; cases x.assigns.isEmpty <;> rfl)
       rw [hqq, HSWE.out] at HLR HRE
       have HLO := Lib.hid HB1.out.low
       have CR := Lib.hid (rredirs_any HT.out HB1.out.rw (HRD.out.imp (fun xs hs => hs.below (HLO.out.mono hBw)) fun _ _ _ h => h.keep fun _ _ _ _ hs => hs.below (HLO.out.mono hBw)) GRD.out qq HLR.out)
       obtain ⟨p0, p1, pf, pg, pl, pr0, pr1, prf, prg, prl⟩ := HB1.out.boxw
       clear hqq
       cases qq
       all_goals
        have hbe := HBE.out
        rw [blankS] at hbe
        simp only [cond_true, cond_false] at hbe
        subst hbe
        go_wp2_with fail
        refine CR.out.mono ?_
        rintro e w3 hrs
        obtain ⟨dv3, q3, ds3, rfl, hs3, hr3, hb3⟩ := hrs.st
        obtain ⟨a3, c3, rfl⟩ := hr3.shape
        have HB3 := Lib.hid (hb3)
        have HR3 := Lib.hid hr3
        have HS3 := Lib.hid hs3
        obtain ⟨n3, hn3⟩ : ∃ n, ds3.length = n := ⟨_, rfl⟩
        rw [hn3] at HR3 ⊢
        have HN3 := Lib.hid hn3
        clear hrs hr3 hs3 hb3 hn3
        clear p0 p1 pf pg pl pr0 pr1 prf prg prl
        have HKR := Lib.hid (HB1.out.later HB3.out)
        obtain ⟨z0, z1, zf, zg, zl, zr0, zr1, zrf, zrg, zrl⟩ := HKR.out.boxw
        go_wp2_with fail
        have HRS := Lib.hid (HB1.out.out2 HB3.out HR3.out (HRE.out.trans HS3.out))
        have HRB := Lib.hid (HB1.out.out2_res (dv' := .slice a3 n3 c3) (out' := q3) HB3.out)
        clear z0 z1 zf zg zl zr0 zr1 zrf zrg zrl
        obtain ⟨Z, hZ⟩ : ∃ Z, Z = ((w3.setCell ⟨w.heap.size + 2, 0, none⟩ (.string (S q3))).setCell ⟨w.heap.size + 2, 1, none⟩ (.slice a3 n3 c3)) := ⟨_, rfl⟩
        rw [← hZ] at HRS HRB
        have y0 := HRB.out.cell 0
        have y1 := HRB.out.cell 1
        simp at y0 y1
        try rw [← hZ]
        clear hZ
        refine bodyPost_ret (v := .agg #[.string (S q3), .slice a3 n3 c3]) (by simp [results, Tryz.results63, go_sem, y0, y1]) rfl HRS.out
end Go.Proofs.YtnackmnoldkihaaGreatDoor
