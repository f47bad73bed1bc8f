/-
  The document's side: a redirection; a simple command.
-/
import Derived.Test.YtnackmnoldkihaaGreatDoorW27
import Derived.Test.YtnackmnoldkihaaGreatDoorW11
import Derived.Test.YtnackmnoldkihaaGreatDoorW8
set_option linter.unusedVariables false
set_option linter.unusedSimpArgs false
/-
  The document's side: a word; a list; first; alone; simple.
-/
namespace Go.Proofs.YtnackmnoldkihaaGreatDoor
open Go.RowKit

set_option maxHeartbeats 4000000 in
set_option maxRecDepth 100000 in
theorem rword_any (level deep : Int) (pt : Pt → Bool) (hpt : ∀ (W : World) (x : Pt) (d : Nat) (c : List Value), PtC W W.heap.size d x c → Calls Tryz.prog 71 #[.agg c.toArray, .int .i64 level, .int .i64 deep] W fun e w' => e = .returned (.bool (pt x)) ∧ Below W.heap.size W w') :
 RWordAt level deep (partsB (fun q x => pt x && !confB q x) none) := by
 intro w l v d sm hl
 obtain ⟨d, hl⟩ := hl.up
 obtain ⟨a, cap, rfl, hz⟩ := hl.len
 obtain ⟨n, hn⟩ : ∃ n, l.length = n := ⟨_, rfl⟩
 rw [hn] at hl hz ⊢
 have HL := Lib.hid hl
 have HN := Lib.hid hn
 have HPT := Lib.hid hpt
 have HE := Lib.hid (nil_of hn)
 have ELT := Lib.hid (nil_lt hn)
 clear hl hn hpt
 go_enter Tryz.func55, Tryz.ntmps55
 go_wp2_with fail
 go_loopw [9] (fun i W => ∃ k : Nat, k ≤ n ∧ i = .int .i64 k ∧ partsTo (fun q x => pt x && !confB q x) l k ∧ Below w.heap.size w W) (fun i _ => n - (intOf i).toNat)
 case atStart => exact ⟨0, Nat.zero_le _, rfl, rfl, Below.refl _ _⟩
 case round =>
  obtain ⟨k, hk, rfl, hto, hB⟩ := hrel
  have HTO := Lib.hid hto
  clear hto
  by_cases hlt : k < n
  · obtain ⟨x, hx⟩ : ∃ x, l[k]? = .some x := ⟨_, List.getElem?_eq_getElem (by rw [HN.out]; exact hlt)⟩
    have HX := Lib.hid hx
    obtain ⟨b, o, c, hi, hbB, hce, hC, _⟩ := HL.out.at 41 72 Tryz.underlying41 (by kernel_rfl) hx
    have HC := Lib.hid hC
    obtain ⟨a1, c1, a2, c2, rfl, _⟩ := hC.open
    have CP : Hid (∀ W, Below w.heap.size w W → _) := Lib.hid fun W (hW : Below w.heap.size w W) => HPT.out W x d _ (HC.out.later hW)
    have HCE := Lib.hid hce
    have e0 := (hB.cell hbB).trans (hce 0 _ rfl)
    have e1 := (hB.cell hbB).trans (hce 1 _ rfl)
    have e2 := (hB.cell hbB).trans (hce 2 _ rfl)
    have e3 := (hB.cell hbB).trans (hce 3 _ rfl)
    have e4 := (hB.cell hbB).trans (hce 4 _ rfl)
    have e5 := (hB.cell hbB).trans (hce 5 _ rfl)
    have hbB' := Nat.lt_of_lt_of_le hbB hB.size
    rw [Nat.add_zero] at e0
    clear hx hce hC
    obtain ⟨r, hr⟩ : ∃ r, pt x = r := ⟨_, rfl⟩
    rw [hr] at CP
    have HR := Lib.hid hr
    clear hr
    go_wp2_with fail
    refine (CP.out _ bg).mono ?_
    rintro e w1 ⟨rfl, hb0⟩
    have hB1 : Below w.heap.size w w1 := since hb0 hB
    clear hb0 e0 e1 e2 e3 e4 e5
    cases r with
    | false =>
      have HNO : Hid (partsB (fun q x => pt x && !confB q x) none l = false) := Lib.hid (partsTo_no HTO.out HX.out (by rw [HR.out]; rfl))
      go_wp2_with fail
      go_ret
      exact ⟨ret_bool (by rw [HNO.out]; rfl), hB1⟩
    | true =>
      by_cases h0 : k = 0
      · subst h0
        have HYES : Hid (partsTo (fun q x => pt x && !confB q x) l (0 + 1)) := Lib.hid (partsTo_step HTO.out HX.out (by rw [HR.out, prevOf, if_pos rfl]; rfl))
        go_wp2_with fail
        go_roundw
        case rel => exact ⟨1, by omega, by go_num, HYES.out, hB1⟩
        case measure => simp [intOf]; omega
      · obtain ⟨y, hy⟩ : ∃ y, l[k - 1]? = .some y := ⟨_, List.getElem?_eq_getElem (by rw [HN.out]; omega)⟩
        obtain ⟨b2, o2, c2, hi2, hbB2, hce2, hC2, _⟩ := HL.out.at 41 72 Tryz.underlying41 (by kernel_rfl) hy
        rw [show ((k - 1 : Nat) : Int) = (k : Int) - 1 by omega] at hi2
        obtain ⟨_, _, _, _, rfl, _⟩ := hC2.open
        have HPV : Hid (prevOf l k = some y) := Lib.hid (by rw [prevOf, if_neg h0, hy])
        have HCF : Hid (confB (some y) x = (y.kind == 1 && ((x.kind == 1 && y.quoted == x.quoted) || ((y.quoted && (L y.text).isEmpty) && x.quoted)))) := Lib.hid rfl
        have f0 := (hB1.cell hbB2).trans (hce2 0 _ rfl)
        have f1 := (hB1.cell hbB2).trans (hce2 1 _ rfl)
        have f2 := (hB1.cell hbB2).trans (hce2 2 _ rfl)
        have e0 := (hB1.cell hbB).trans (HCE.out 0 _ rfl)
        have e1 := (hB1.cell hbB).trans (HCE.out 1 _ rfl)
        rw [Nat.add_zero] at e0 f0
        have hbB3 := Nat.lt_of_lt_of_le hbB hB1.size
        have hbB4 := Nat.lt_of_lt_of_le hbB2 hB1.size
        have ek : ((k : Int) == 0) = false := by simp; omega
        have hk0 : (0 : Int) ≤ (k : Int) - 1 := by omega
        have hk1 : (k : Int) - 1 < (n : Int) := by omega
        clear hy hce2 hC2
        obtain ⟨xk, hxk⟩ : ∃ v, x.kind = v := ⟨_, rfl⟩
        obtain ⟨xq, hxq⟩ : ∃ v, x.quoted = v := ⟨_, rfl⟩
        obtain ⟨yk, hyk⟩ : ∃ v, y.kind = v := ⟨_, rfl⟩
        obtain ⟨yq, hyq⟩ : ∃ v, y.quoted = v := ⟨_, rfl⟩
        obtain ⟨yt, hyt⟩ : ∃ v, y.text = v := ⟨_, rfl⟩
        rw [hyk] at f0 HCF
        rw [hyq] at f1 HCF
        rw [hyt] at f2 HCF
        rw [hxk] at e0 HCF
        rw [hxq] at e1 HCF
        clear hxk hxq hyk hyq hyt
        cases hyk1 : (yk == 1) with
        | false =>
          have HYES : Hid (partsTo (fun q x => pt x && !confB q x) l (k + 1)) := Lib.hid (partsTo_step HTO.out HX.out (by rw [HR.out, HPV.out, HCF.out]; simp [hyk1]))
          go_wp2_with fail
          go_roundw
          case rel => exact ⟨k + 1, by omega, by go_num, HYES.out, hB1⟩
          case measure => simp [intOf]; omega
        | true =>
          go_upto_region 7 with fail
          cases hxk1 : (xk == 1)
          all_goals cases yq
          all_goals cases xq
          all_goals cases hye : (L yt).isEmpty
          all_goals
           have hyt2 := (isEmpty_L yt).trans hye
           go_quiet (fail)
           have hBD := below_drewN hB1 nq
           first
            | (have HCT : Hid (confB (some y) x = true) := Lib.hid (by rw [HCF.out, hyk1]; simp [hxk1, hye]; done)
               have HNO : Hid (partsB (fun q x => pt x && !confB q x) none l = false) := Lib.hid (partsTo_no HTO.out HX.out (by rw [HR.out, HPV.out, HCT.out]; rfl))
               clear hyk1 hxk1 hye
               go_wp2_with fail
               go_ret
               exact ⟨ret_bool (by rw [HNO.out]; rfl), hBD⟩)
            | (have HCT : Hid (confB (some y) x = false) := Lib.hid (by rw [HCF.out, hyk1]; simp [hxk1, hye]; done)
               have HYES : Hid (partsTo (fun q x => pt x && !confB q x) l (k + 1)) := Lib.hid (partsTo_step HTO.out HX.out (by rw [HR.out, HPV.out, HCT.out]; rfl))
               clear hyk1 hxk1 hye
               go_wp2_with fail
               go_roundw
               case rel => exact ⟨k + 1, by omega, by go_num, HYES.out, hBD⟩
               case measure => simp [intOf]; omega)
  · have HR : Hid (partsB (fun q x => pt x && !confB q x) none l = true) := Lib.hid (partsTo_end HTO.out (by rw [HN.out]; omega))
    rcases Nat.eq_zero_or_pos n with h0 | h0
    · subst h0
      have hll : l.isEmpty = true := by rw [HE.out]; rfl
      go_wp2_with fail
      go_ret
      exact ⟨ret_bool (by first | (rw [HR.out, hll]; simp; done) | (simp; done) | simp [HR.out, hll]), hB⟩
    · have hll : l.isEmpty = false := by rw [HE.out]; simp; omega
      have e1 : decide ((0 : Int) < (n : Int)) = true := by simp; omega
      go_wp2_with fail
      go_ret
      exact ⟨ret_bool (by first | (rw [HR.out, hll]; simp; done) | (simp; done) | simp [HR.out, hll]), hB⟩
end Go.Proofs.YtnackmnoldkihaaGreatDoor
/-
  The document's side: a list; whether each list is one command; a command's first word.
-/
namespace Go.Proofs.YtnackmnoldkihaaGreatDoor
open Go.RowKit

set_option maxHeartbeats 1000000 in
set_option maxRecDepth 100000 in
theorem rlist_any (level deep : Int) (nd : Nd → Bool) (hnd : ∀ (W : World) (x : Nd) (d : Nat) (c : List Value), NdC W W.heap.size d x c → Calls Tryz.prog 40 #[.agg c.toArray, .int .i64 level, .int .i64 deep] W fun e w' => e = .returned (.bool (nd x)) ∧ Below W.heap.size W w') :
 RListAt level deep (fun l => l.all nd) := by
 intro w l v d sm hl
 obtain ⟨d, hl⟩ := hl.up
 obtain ⟨a, cap, rfl, hz⟩ := hl.len
 obtain ⟨n, hn⟩ : ∃ n, l.length = n := ⟨_, rfl⟩
 rw [hn] at hl hz ⊢
 have HL := Lib.hid hl
 have HN := Lib.hid hn
 have HND := Lib.hid hnd
 have HE := Lib.hid (nil_of hn)
 clear hl hn hnd
 go_enter Tryz.func11, Tryz.ntmps11
 go_wp2_with fail
 go_loopw [9] (fun i W => ∃ k : Nat, k ≤ n ∧ i = .int .i64 k ∧ (l.take k).all nd = true ∧ Below w.heap.size w W) (fun i _ => n - (intOf i).toNat)
 case atStart => exact ⟨0, Nat.zero_le _, rfl, by simp, Below.refl _ _⟩
 case round =>
  obtain ⟨k, hk, rfl, hal, hB⟩ := hrel
  have HAL := Lib.hid hal
  clear hal
  by_cases hlt : k < n
  · obtain ⟨x, hx⟩ : ∃ x, l[k]? = .some x := ⟨_, List.getElem?_eq_getElem (by rw [HN.out]; exact hlt)⟩
    have HX := Lib.hid hx
    obtain ⟨b, o, c, hi, hbB, hce, hC, _⟩ := HL.out.at 25 64 Tryz.underlying25 (by kernel_rfl) hx
    have HC := Lib.hid hC
    obtain ⟨a1, c1, a2, c2, a3, c3, a4, c4, a5, c5, rfl, _⟩ := hC.open
    have CP : Hid (∀ W, Below w.heap.size w W → _) := Lib.hid fun W (hW : Below w.heap.size w W) => HND.out W x d _ (HC.out.later hW)
    have e0 := (hB.cell hbB).trans (hce 0 _ rfl)
    have e1 := (hB.cell hbB).trans (hce 1 _ rfl)
    have e2 := (hB.cell hbB).trans (hce 2 _ rfl)
    have e3 := (hB.cell hbB).trans (hce 3 _ rfl)
    have e4 := (hB.cell hbB).trans (hce 4 _ rfl)
    have e5 := (hB.cell hbB).trans (hce 5 _ rfl)
    have e6 := (hB.cell hbB).trans (hce 6 _ rfl)
    have hbB' := Nat.lt_of_lt_of_le hbB hB.size
    rw [Nat.add_zero] at e0
    clear hx hce hC
    obtain ⟨r, hr⟩ : ∃ r, nd x = r := ⟨_, rfl⟩
    rw [hr] at CP
    have HR := Lib.hid hr
    clear hr
    go_wp2_with fail
    refine (CP.out _ bg).mono ?_
    rintro e w1 ⟨rfl, hb0⟩
    have hB1 : Below w.heap.size w w1 := since hb0 hB
    clear hb0 e0 e1 e2 e3 e4 e5 e6
    cases r with
    | false =>
      have HNO := Lib.hid (all_no (f := nd) HX.out HR.out)
      go_wp2_with fail
      go_ret
      exact ⟨ret_bool (by rw [HNO.out]; rfl), hB1⟩
    | true =>
      have HYES := Lib.hid (all_to HAL.out HX.out HR.out)
      go_wp2_with fail
      go_roundw
      case rel => exact ⟨k + 1, by omega, by go_num, HYES.out, hB1⟩
      case measure => simp [intOf]; omega
  · have HR := Lib.hid (all_end HAL.out (by rw [HN.out]; omega))
    cases sm with
    | true =>
      go_wp2_with fail
      go_ret
      exact ⟨ret_bool (by rw [HR.out]; rfl), hB⟩
    | false =>
      rcases Nat.eq_zero_or_pos n with h0 | h0
      · subst h0
        have hll : l.isEmpty = true := by rw [HE.out]; rfl
        go_wp2_with fail
        go_ret
        exact ⟨ret_bool (by first | (rw [HR.out, hll]; simp; done) | (simp; done) | simp [HR.out, hll]), hB⟩
      · have hll : l.isEmpty = false := by rw [HE.out]; simp; omega
        have e1 : decide ((0 : Int) < (n : Int)) = true := by simp; omega
        go_wp2_with fail
        go_ret
        exact ⟨ret_bool (by first | (rw [HR.out, hll]; simp; done) | (simp; done) | simp [HR.out, hll]), hB⟩

/-- Each list is one command. -/
def aloneL (x : Nd) : Bool := x.lists.all fun y => decide (y.length = 1)
set_option maxHeartbeats 1000000 in
set_option maxRecDepth 100000 in
theorem ralone_any (x : Nd) (w : World) (d : Nat) (c : List Value) (hp : NdC w w.heap.size d x c) :
 Calls Tryz.prog 74 #[.agg c.toArray] w fun e w' => e = .returned (.bool (aloneL x)) ∧ Below w.heap.size w w' := by
 obtain ⟨a1, c1, a2, c2, a3, c3, a4, c4, a5, c5, rfl, hxz, ⟨hn1, hn2, hn3, hn4, hn5⟩, hA, hW, hRd, hLs, hAr⟩ := hp.open
 obtain ⟨n4, hl4⟩ : ∃ n, x.lists.length = n := ⟨_, rfl⟩
 rw [hl4] at hn4 hLs ⊢
 have HLS := Lib.hid hLs
 have N4 := Lib.hid hl4
 have HBK := Lib.hid (Blk.new w 64 #[.int .i64 x.kind, .string x.name, .slice a1 x.assigns.length c1, .slice a2 x.words.length c2, .slice a3 x.redirs.length c3, .slice a4 n4 c4, .slice a5 x.arms.length c5])
 clear hp hA hW hRd hLs hAr hl4
 go_enter Tryz.func74, Tryz.ntmps74
 go_wp2_with fail
 go_loop [3] (fun i => ∃ k : Nat, k ≤ n4 ∧ i = .int .i64 k ∧ (x.lists.take k).all (fun y => decide (y.length = 1)) = true) (fun i => n4 - (intOf i).toNat)
 case atStart => exact ⟨0, Nat.zero_le _, rfl, by simp⟩
 case round =>
  obtain ⟨k, hk, rfl, hal⟩ := hrel
  have HAL := Lib.hid hal
  clear hal
  by_cases hlt : k < n4
  · obtain ⟨y, hy⟩ : ∃ y, x.lists[k]? = .some y := ⟨_, List.getElem?_eq_getElem (by rw [N4.out]; exact hlt)⟩
    obtain ⟨b, o, c, hi, hbB, hce, ⟨yv, rfl, hyp⟩, _⟩ := HLS.out.at 61 25 Tryz.underlying61 (by kernel_rfl) hy
    have HY := Lib.hid hy
    obtain ⟨a6, c6, rfl, _⟩ := hyp.shape
    obtain ⟨ny, hny⟩ : ∃ n, y.length = n := ⟨_, rfl⟩
    have e0 := hce 0 _ rfl
    rw [Nat.add_zero, hny] at e0
    have NY := Lib.hid hny
    clear hy hce hyp hny
    by_cases h1 : ny = 1
    · have HE := Lib.hid (all_to (f := fun y : List Nd => decide (y.length = 1)) HAL.out HY.out (by simp [NY.out, h1]))
      subst h1
      go_wp2_with fail
      go_round
      case rel => exact ⟨k + 1, by omega, by go_num, HE.out⟩
      case measure => simp [intOf]; omega
    · have HE : Hid (aloneL x = false) := Lib.hid (all_no (f := fun y : List Nd => decide (y.length = 1)) HY.out (by simp [NY.out, h1]))
      have g : ((ny : Int) == 1) = false := by simp; omega
      go_wp2_with fail
      go_ret
      exact ⟨ret_bool HE.out.symm, bg⟩
  · have HE : Hid (aloneL x = true) := Lib.hid (all_end HAL.out (by rw [N4.out]; omega))
    go_wp2_with fail
    go_ret
    exact ⟨ret_bool HE.out.symm, bg⟩

theorem eqB_no {s : List UInt8} {k : Nat} (hk : k < s.length) (h : (s.getD k 0 == 61 && nameL (s.take k)) = true) : eqB s = true := by
 rw [eqB, List.any_eq_true]; exact ⟨k, List.mem_range.2 hk, h⟩
def eqTo (s : List UInt8) (k : Nat) : Prop := ∀ i, i < k → (s.getD i 0 == 61 && nameL (s.take i)) = false
theorem eqTo_succ {s : List UInt8} {k : Nat} (h : eqTo s k) (hc : (s.getD k 0 == 61 && nameL (s.take k)) = false) : eqTo s (k + 1) := fun i hi => by
 by_cases e : i = k
 · rw [e]; exact hc
 · exact h i (by omega)
theorem eqTo_end {s : List UInt8} {k : Nat} (h : eqTo s k) (hk : s.length ≤ k) : eqB s = false := by
 rw [eqB, List.any_eq_false]
 exact fun i hi => by rw [h i (by have := List.mem_range.1 hi; omega)]; simp

set_option maxHeartbeats 1000000 in
set_option maxRecDepth 100000 in
theorem rfirst_any (l : List Pt) (v : Value) (w : World) (d : Nat) (hl : PtsIn w w.heap.size d l v) (hne : l ≠ []) :
 Calls Tryz.prog 73 #[v] w fun e w' => e = .returned (.bool (firstB l)) ∧ Below w.heap.size w w' := by
 rw [← rfirst_eq]
 obtain ⟨a, cap, rfl, hz⟩ := hl.shape
 obtain ⟨n, hn⟩ : ∃ n, l.length = n := ⟨_, rfl⟩
 have hpos : 0 < l.length := List.length_pos_iff.2 hne
 obtain ⟨x, b, o, ⟨xr, hx⟩, hxt, hi, hbB, g0, g1, g2⟩ := hl.first14 hpos
 have HF : Hid (rfirstB l = bif x.kind == 1 && !x.quoted then (!eqB (L x.text) && !(xr.isEmpty && oneB reservedWs (L x.text))) else true) := Lib.hid (by rw [hx]; rfl)
 have HXR : Hid (n = xr.length + 1) := Lib.hid (by rw [← hn, hx]; rfl)
 rw [hn] at hz hi ⊢
 unfold bigN at hz
 have CN : Hid (∀ (t : ByteArray) (W : World), t.size ≤ 1048576 → Calls Tryz.prog 22 #[.string t] W fun e w' => e = .returned (.bool (nameL (L t))) ∧ Below W.heap.size W w') := Lib.hid fun t W ht => (rname_any t W (by unfold maxLen; omega)).mono fun e w' h => ⟨h.1, by first | exact h.2 | (rw [h.2]; exact Below.refl _ _) | (rw [← h.2]; exact Below.refl _ _)⟩
 have CR := Lib.hid fun W => rreserved_any x.text W
 obtain ⟨xk, hxk⟩ : ∃ v, x.kind = v := ⟨_, rfl⟩
 obtain ⟨xq, hxq⟩ : ∃ v, x.quoted = v := ⟨_, rfl⟩
 obtain ⟨xt, hxt2⟩ : ∃ v, x.text = v := ⟨_, rfl⟩
 rw [hxk] at g0 HF
 rw [hxq] at g1 HF
 rw [hxt2] at g2 HF hxt CR
 clear hl hn hpos hne hx hxk hxq hxt2
 cases hk1 : (xk == 1) with
 | false =>
   have HE : Hid (rfirstB l = true) := Lib.hid (by rw [HF.out, hk1]; rfl)
   have hk2 : (xk != 1) = true := by rw [bne, hk1]; rfl
   go_enter Tryz.func73, Tryz.ntmps73
   go_wp2_with fail
   go_ret
   exact ⟨ret_bool HE.out.symm, bg⟩
 | true =>
   have hk2 : (xk != 1) = false := by rw [bne, hk1]; rfl
   cases xq with
   | true =>
     have HE : Hid (rfirstB l = true) := Lib.hid (by rw [HF.out, hk1]; rfl)
     go_enter Tryz.func73, Tryz.ntmps73
     go_wp2_with fail
     go_ret
     exact ⟨ret_bool HE.out.symm, bg⟩
   | false =>
     have HE : Hid (rfirstB l = (!eqB (L xt) && !(xr.isEmpty && oneB reservedWs (L xt)))) := Lib.hid (by rw [HF.out, hk1]; rfl)
     go_enter Tryz.func73, Tryz.ntmps73
     go_wp2_with fail
     go_loopw [4] (fun i W => ∃ k : Nat, k ≤ xt.size ∧ i = .int .i64 k ∧ eqTo (L xt) k ∧ Below w.heap.size w W) (fun i _ => xt.size - (intOf i).toNat)
     case atStart => exact ⟨0, Nat.zero_le _, rfl, fun i hi => by omega, Below.refl _ _⟩
     case round =>
      obtain ⟨k, hk, rfl, hto, hB⟩ := hrel
      have HTO := Lib.hid hto
      clear hto
      by_cases hlt : k < xt.size
      · have hidx := run_idx (P := Tryz.prog) Tryz.underlying9 xt (k := .i64) (k : Int) k rfl hlt
        obtain ⟨c, hc⟩ : ∃ c, (L xt).getD k 0 = c := ⟨_, rfl⟩
        rw [hc] at hidx
        have HC := Lib.hid hc
        clear hc
        have HEX : Hid (L (xt.extract 0 k) = (L xt).take k) := Lib.hid (by rw [L_extract]; rfl)
        have hez : (xt.extract 0 k).size ≤ 1048576 := by rw [← L_size, HEX.out, List.length_take, L_size]; omega
        have CN1 := Lib.hid fun W => CN.out (xt.extract 0 k) W hez
        rw [HEX.out] at CN1
        obtain ⟨nm, hnm⟩ : ∃ b, nameL ((L xt).take k) = b := ⟨_, rfl⟩
        rw [hnm] at CN1
        have HNM := Lib.hid hnm
        clear hnm hez
        by_cases h61 : c = 61
        · have e61 : (((c.toNat : Nat) : Int) == 61) = true := eq_byte h61
          have H61 := Lib.hid h61
          clear h61
          go_wp2_with fail
          refine (CN1.out _).mono ?_
          rintro e w1 ⟨rfl, hb0⟩
          have hB1 : Below w.heap.size w w1 := since hb0 hB
          clear hb0
          cases nm with
          | true =>
            have HE2 : Hid (rfirstB l = false) := Lib.hid (by rw [HE.out, eqB_no (show k < (L xt).length from hlt) (by rw [HC.out, H61.out, HNM.out]; rfl)]; rfl)
            go_wp2_with fail
            go_ret
            exact ⟨ret_bool HE2.out.symm, hB1⟩
          | false =>
            have HE2 := Lib.hid (eqTo_succ HTO.out (by rw [HNM.out, Bool.and_false]))
            go_wp2_with fail
            go_roundw
            case rel => exact ⟨k + 1, by omega, by go_num, HE2.out, hB1⟩
            case measure => simp [intOf]; omega
        · have e61 : (((c.toNat : Nat) : Int) == 61) = false := ne_byte h61
          have HE2 := Lib.hid (eqTo_succ HTO.out (by rw [HC.out]; simp [h61]))
          clear h61
          go_wp2_with fail
          go_roundw
          case rel => exact ⟨k + 1, by omega, by go_num, HE2.out, hB⟩
          case measure => simp [intOf]; omega
      · have HE2 : Hid (rfirstB l = !(xr.isEmpty && oneB reservedWs (L xt))) := Lib.hid (by rw [HE.out, eqTo_end HTO.out (by rw [L_size]; omega)]; rfl)
        have hnx := HXR.out
        by_cases h1 : n = 1
        · have HE3 : Hid (rfirstB l = !oneB reservedWs (L xt)) := Lib.hid (by rw [HE2.out, show xr.isEmpty = true from nil_of_len rfl (by omega)]; rfl)
          clear hnx HXR
          subst h1
          obtain ⟨rs, hrs⟩ : ∃ b, oneB reservedWs (L xt) = b := ⟨_, rfl⟩
          rw [hrs] at CR HE3
          clear hrs
          go_wp2_with fail
          refine (CR.out _).mono ?_
          rintro e w1 ⟨rfl, hb0⟩
          have hB1 : Below w.heap.size w w1 := since hb0 hB
          clear hb0
          go_wp2_with fail
          go_ret
          exact ⟨ret_bool HE3.out.symm, hB1⟩
        · have HE3 : Hid (rfirstB l = true) := Lib.hid (by rw [HE2.out, show xr.isEmpty = false from not_nil_of_len rfl (by omega)]; rfl)
          have e1 : decide ((1 : Int) < (n : Int)) = true := by simp; omega
          clear hnx
          go_wp2_with fail
          go_ret
          exact ⟨ret_bool HE3.out.symm, hB⟩
end Go.Proofs.YtnackmnoldkihaaGreatDoor
namespace Go.Proofs.YtnackmnoldkihaaGreatDoor
open Go.RowKit

def redWs16 : List (List UInt8) := [[60], [62], [62, 62], [60, 62], [62, 124], [60, 38], [62, 38], [], [], [], [], [], [], [], [], []]
theorem redWs_eq (l : List UInt8) : oneB redWs16 l = oneB redWs l := by
 cases l with
 | nil => rfl
 | cons c r =>
   have e : redWs16 = redWs ++ List.replicate 9 [] := rfl
   have h : (redWs ++ List.replicate 9 []).contains (c :: r) = redWs.contains (c :: r) := by
    rw [Bool.eq_iff_iff, List.contains_iff_mem, List.contains_iff_mem, List.mem_append]
    exact ⟨fun h => h.resolve_right (fun h2 => absurd (List.eq_of_mem_replicate h2) (by simp)), Or.inl⟩
   rw [oneB, oneB, e, h]
theorem suffix_nil : List.isSuffixOf [10] ([] : List UInt8) = false := rfl
theorem suffix_last {l : List UInt8} (h : 0 < l.length) : List.isSuffixOf [10] l = (l.getD (l.length - 1) 0 == 10) := by
 obtain ⟨r, c, rfl⟩ : ∃ r c, l = r ++ [c] := ⟨l.dropLast, l.getLast (by intro e; subst e; simp at h), (List.dropLast_concat_getLast _).symm⟩
 rw [Bool.eq_iff_iff, List.isSuffixOf_iff_suffix]
 have e : (r ++ [c]).getD ((r ++ [c]).length - 1) 0 = c := by simp [List.getD]
 rw [e, beq_iff_eq]
 constructor
 · rintro ⟨t, ht⟩
   exact (List.append_inj' ht rfl).2 |> fun h => by simp at h; exact h.symm
 · rintro rfl
   exact ⟨r, rfl⟩

set_option maxHeartbeats 4000000 in
set_option maxRecDepth 100000 in
theorem rredir_any (wd : List Pt → Bool) (level deep : Int) (hwd : RWordAt level deep wd) (r : Rd) (w : World) (d : Nat) (c : List Value) (hp : RdC w w.heap.size d r c) :
 Calls Tryz.prog 56 #[.agg c.toArray, .int .i64 level, .int .i64 deep] w fun e w' => e = .returned (.bool (redirB wd r)) ∧ Below w.heap.size w w' := by
 obtain ⟨a1, c1, rfl, ⟨h1, h2⟩, hsum, hlw, hw⟩ := hp.open
 obtain ⟨lw, hlw0⟩ : ∃ n, r.word.length = n := ⟨_, rfl⟩
 rw [hlw0] at hlw hw ⊢
 have CWt := Lib.hid (hwd.reads hw true)
 have CWf := Lib.hid (hwd.reads hw false)
 have CNm : Hid (∀ W, Below w.heap.size w W → Calls Tryz.prog 22 #[.string r.tag] W fun e w' => e = .returned (.bool (nameL (L r.tag))) ∧ Below W.heap.size W w') := Lib.hid fun W _ => (rname_any r.tag W (by unfold maxLen; omega)).mono fun e w' h => ⟨h.1, by first | exact h.2 | (rw [h.2]; exact Below.refl _ _) | (rw [← h.2]; exact Below.refl _ _)⟩
 have COn : Hid (∀ W, Below w.heap.size w W → Calls Tryz.prog 47 #[.string r.op, .agg #[.string ⟨#[60]⟩, .string ⟨#[62]⟩, .string ⟨#[62, 62]⟩, .string ⟨#[60, 62]⟩, .string ⟨#[62, 124]⟩, .string ⟨#[60, 38]⟩, .string ⟨#[62, 38]⟩, .string ⟨#[]⟩, .string ⟨#[]⟩, .string ⟨#[]⟩, .string ⟨#[]⟩, .string ⟨#[]⟩, .string ⟨#[]⟩, .string ⟨#[]⟩, .string ⟨#[]⟩, .string ⟨#[]⟩]] W fun e w' => e = .returned (.bool (oneB redWs (L r.op))) ∧ Below W.heap.size W w') :=
  Lib.hid fun W _ => by
   have := one_any r.op redWs16 rfl W
   rw [redWs_eq] at this
   exact this
 have CDc : Hid (∀ W, Below w.heap.size w W → Calls Tryz.prog 13 #[.slice a1 lw c1] W fun e w' => e = .returned (.string (S (docL r.word))) ∧ Below W.heap.size W w') := Lib.hid fun W hW => (rdoc_any r.word _ W d (hw.later hW) hsum).mono fun e w' h => ⟨h.1, by rw [← h.2]; exact Below.refl _ _⟩
 have hdz : (docL r.word).length ≤ 8388608 := by
  have := flat_docP (litrB r.word) r.word
  rw [show (docL r.word) = r.word.flatMap (docP (litrB r.word)) from rfl]
  omega
 have HST : Hid (nameL (L r.tag) = true → Lib.contains (10 :: docL r.word) (10 :: (L r.tag ++ [10])) = standsL (L r.tag) [] (docL r.word)) := Lib.hid fun h => stands_contains (name_no10 h)
 obtain ⟨dt, hdt⟩ : ∃ t : ByteArray, t = S (docL r.word) := ⟨_, rfl⟩
 have HDL : Hid (docL r.word = L dt) := Lib.hid (by rw [hdt, L_S])
 have hdz2 : dt.size ≤ 8388608 := by rw [hdt, S_size]; exact hdz
 rw [← hdt] at CDc
 rw [HDL.out] at HST
 have CSt : Hid (∀ W, Below w.heap.size w W → Calls Tryz.prog 72 #[.string dt, .string r.tag] W fun e w' => e = .returned (.bool (standsL (L r.tag) [] (L dt))) ∧ Below W.heap.size W w') := Lib.hid fun W _ => (stands_any dt r.tag W (by unfold maxLen; omega)).mono fun e w' h => ⟨h.1, by rw [← h.2]; exact Below.refl _ _⟩
 obtain ⟨res, hres⟩ : ∃ b, redirB wd r = b := ⟨_, rfl⟩
 rw [hres]
 have HRES : Hid (res = ((decide (0 ≤ r.fd) && decide (r.fd ≤ 9)) && (bif L r.op == [60, 60] then (nameL (L r.tag) && (wd r.word && (r.word.all docPartB && (r.word.isEmpty || (List.isSuffixOf [10] (L dt) && !Lib.contains (10 :: L dt) (10 :: (L r.tag ++ [10]))))))) else (oneB redWs (L r.op) && ((L r.tag).isEmpty && (wd r.word && !r.word.isEmpty)))))) := Lib.hid (by rw [← hres, redirB, docB, HDL.out])
 obtain ⟨d, hws⟩ := hw.up
 have HWS := Lib.hid hws
 have HLW := Lib.hid hlw0
 have EW := Lib.hid (nil_beq hlw0)
 have BK := Lib.hid (Bk.start w 100 #[.int .i64 r.fd, .string r.op, .string r.tag, .slice a1 lw c1])
 clear hp hres hw hws hlw0 hwd hdt hdz hsum
 obtain ⟨fd, hfd⟩ : ∃ v, r.fd = v := ⟨_, rfl⟩
 rw [hfd] at HRES BK ⊢
 clear hfd
 by_cases hf0 : fd < 0
 · have g0 : decide (fd < 0) = true := by simp [hf0]
   have HE : Hid (res = false) := Lib.hid (by rw [HRES.out, show decide (0 ≤ fd) = false by simp; omega]; rfl)
   go_enter Tryz.func56, Tryz.ntmps56
   go_wp2_with fail
   go_ret
   exact ⟨ret_bool HE.out.symm, bg⟩
 · have g0 : decide (fd < 0) = false := by simp [hf0]
   by_cases hf9 : 9 < fd
   · have g1 : decide (9 < fd) = true := by simp [hf9]
     have HE : Hid (res = false) := Lib.hid (by rw [HRES.out, show decide (fd ≤ 9) = false by simp; omega, Bool.and_false]; rfl)
     go_enter Tryz.func56, Tryz.ntmps56
     go_wp2_with fail
     go_ret
     exact ⟨ret_bool HE.out.symm, bg⟩
   · have g1 : decide (9 < fd) = false := by simp [hf9]
     have HRES2 := HRES.out
     rw [show decide (0 ≤ fd) = true by simp; omega, show decide (fd ≤ 9) = true by simp; omega, Bool.true_and, Bool.true_and] at HRES2
     have HRES3 := Lib.hid HRES2
     clear HRES2 HRES
     cases hop : (L r.op == [60, 60]) with
     | false =>
       have g2 : (r.op.toList == [60, 60]) = false := by rw [toList_L]; exact hop
       have HE : Hid (res = (oneB redWs (L r.op) && ((L r.tag).isEmpty && (wd r.word && !r.word.isEmpty)))) := Lib.hid (by rw [HRES3.out, hop]; rfl)
       obtain ⟨ob, hob⟩ : ∃ b, oneB redWs (L r.op) = b := ⟨_, rfl⟩
       obtain ⟨wr, hwr⟩ : ∃ b, (wd r.word && (!true || !r.word.isEmpty)) = b := ⟨_, rfl⟩
       rw [hwr] at CWt
       rw [Bool.not_true, Bool.false_or] at hwr
       rw [hob, hwr] at HE
       rw [hob] at COn
       clear hob hwr hop CDc CSt CNm CWf
       go_enter Tryz.func56, Tryz.ntmps56
       go_wp2_with fail
       refine (COn.out _ bg).mono ?_
       rintro e w1 ⟨rfl, hb0⟩
       have hBw1 : Below w.heap.size w w1 := since hb0 bg
       have BKw1 := Lib.hid (Bk.later BK.out (since hb0 bg))
       clear hb0
       have K1BKw1 := Lib.hid BKw1.out.b
       have hBBKw1 := BKw1.out.hb
       obtain ⟨p0, p1, p2, p3, pl⟩ := K1BKw1.out.box4
       cases ob with
       | false =>
         go_wp2_with fail
         go_ret
         exact ⟨ret_bool HE.out.symm, bg⟩
       | true =>
         cases hte : (L r.tag).isEmpty with
         | false =>
           have e1 : r.tag.toList.isEmpty = false := by rw [isEmpty_L]; exact hte
           rw [hte] at HE
           clear hte
           go_wp2_with fail
           go_ret
           exact ⟨ret_bool HE.out.symm, bg⟩
         | true =>
           have e1 : r.tag.toList.isEmpty = true := by rw [isEmpty_L]; exact hte
           rw [hte] at HE
           clear hte
           go_wp2_with fail
           refine (CWt.out _ bg).mono ?_
           rintro e w2 ⟨rfl, hb0⟩
           have hBw2 : Below w.heap.size w w2 := since hb0 bg
           have BKw2 := Lib.hid (Bk.later BKw1.out (since hb0 bg))
           clear hb0
           go_wp2_with fail
           go_ret
           exact ⟨ret_bool HE.out.symm, bg⟩
     | true =>
       have g2 : (r.op.toList == [60, 60]) = true := by rw [toList_L]; exact hop
       have HE : Hid (res = (nameL (L r.tag) && (wd r.word && (r.word.all docPartB && (r.word.isEmpty || (List.isSuffixOf [10] (L dt) && !Lib.contains (10 :: L dt) (10 :: (L r.tag ++ [10])))))))) := Lib.hid (by rw [HRES3.out, hop]; rfl)
       clear HRES3 COn CWt hop
       obtain ⟨wr, hwr⟩ : ∃ b, (wd r.word && (!false || !r.word.isEmpty)) = b := ⟨_, rfl⟩
       rw [hwr] at CWf
       rw [Bool.not_false, Bool.true_or, Bool.and_true] at hwr
       rw [hwr] at HE
       clear hwr
       obtain ⟨nm, hnm⟩ : ∃ b, nameL (L r.tag) = b := ⟨_, rfl⟩
       rw [hnm] at CNm HE HST
       clear hnm
       go_enter Tryz.func56, Tryz.ntmps56
       go_wp2_with fail
       refine (CNm.out _ bg).mono ?_
       rintro e w1 ⟨rfl, hb0⟩
       have hBw1 : Below w.heap.size w w1 := since hb0 bg
       have BKw1 := Lib.hid (Bk.later BK.out (since hb0 bg))
       clear hb0
       have K1BKw1 := Lib.hid BKw1.out.b
       have hBBKw1 := BKw1.out.hb
       obtain ⟨p0, p1, p2, p3, pl⟩ := K1BKw1.out.box4
       cases nm with
       | false =>
         go_wp2_with fail
         go_ret
         exact ⟨ret_bool HE.out.symm, bg⟩
       | true =>
         have HST1 := Lib.hid (HST.out rfl)
         go_wp2_with fail
         refine (CWf.out _ bg).mono ?_
         rintro e w2 ⟨rfl, hb0⟩
         have hBw2 : Below w.heap.size w w2 := since hb0 bg
         have BKw2 := Lib.hid (Bk.later BKw1.out (since hb0 bg))
         clear hb0
         clear p0 p1 p2 p3 pl
         have K1BKw2 := Lib.hid BKw2.out.b
         have hBBKw2 := BKw2.out.hb
         obtain ⟨p0, p1, p2, p3, pl⟩ := K1BKw2.out.box4
         cases wr with
         | false =>
           go_wp2_with fail
           go_ret
           exact ⟨ret_bool HE.out.symm, bg⟩
         | true =>
           go_wp2_with fail
           go_loopw [7] (fun i W => ∃ k : Nat, k ≤ lw ∧ i = .int .i64 k ∧ (r.word.take k).all docPartB = true ∧ Bk w W 100 #[.int .i64 fd, .string r.op, .string r.tag, .slice a1 lw c1]) (fun i _ => lw - (intOf i).toNat)
           case atStart => exact ⟨0, Nat.zero_le _, rfl, by simp, BKw2.out⟩
           case round =>
            clear p0 p1 p2 p3 pl
            obtain ⟨k, hk, rfl, hal, hbk⟩ := hrel
            have HAL := Lib.hid hal
            have BKr := Lib.hid hbk
            clear hal hbk
            have K1BKr := Lib.hid BKr.out.b
            have hBBKr := BKr.out.hb
            obtain ⟨p0, p1, p2, p3, pl⟩ := K1BKr.out.box4
            by_cases hlt : k < lw
            · obtain ⟨x, hx⟩ : ∃ x, r.word[k]? = .some x := ⟨_, List.getElem?_eq_getElem (by rw [HLW.out]; exact hlt)⟩
              obtain ⟨b, o, c, hi, hbB, hce, hC, _⟩ := HWS.out.at 41 72 Tryz.underlying41 (by kernel_rfl) hx
              have HX := Lib.hid hx
              obtain ⟨a3, c3, a4, c4, rfl, ⟨hC1, _⟩, _⟩ := hC.open
              have e0 := (hBBKr.cell hbB).trans (hce 0 _ rfl)
              have e1 := (hBBKr.cell hbB).trans (hce 1 _ rfl)
              have e2 := (hBBKr.cell hbB).trans (hce 2 _ rfl)
              have e3 := (hBBKr.cell hbB).trans (hce 3 _ rfl)
              have e4 := (hBBKr.cell hbB).trans (hce 4 _ rfl)
              have e5 := (hBBKr.cell hbB).trans (hce 5 _ rfl)
              have hbB' := Nat.lt_of_lt_of_le hbB hBBKr.size
              rw [Nat.add_zero] at e0
              have CI : Hid (∀ W, Calls Tryz.prog 43 #[.string x.text, .int .u8 10] W fun e w' => e = .returned (.bool (hasB (L x.text) 10)) ∧ W = w') := Lib.hid fun W => (In_any x.text 10 W (by unfold maxLen; omega)).mono fun e w' h => ⟨h.1, h.2.symm⟩
              have HDP : Hid (docPartB x = (x.quoted && ((L x.op).isEmpty && (!(x.kind == 3) && !(x.kind == 4 && hasB (L x.text) 10))))) := Lib.hid rfl
              clear hx hce hC
              obtain ⟨dp, hdp⟩ : ∃ b, docPartB x = b := ⟨_, rfl⟩
              rw [hdp] at HDP
              have HDV := Lib.hid hdp
              clear hdp
              obtain ⟨hh, hhh⟩ : ∃ b, hasB (L x.text) 10 = b := ⟨_, rfl⟩
              rw [hhh] at CI HDP
              clear hhh
              obtain ⟨xk, hxk⟩ : ∃ v, x.kind = v := ⟨_, rfl⟩
              obtain ⟨xq, hxq⟩ : ∃ v, x.quoted = v := ⟨_, rfl⟩
              rw [hxk] at e0 HDP
              rw [hxq] at e1 HDP
              clear hxk hxq
              cases xq with
              | false =>
                have HE2 : Hid (res = false) := Lib.hid (by rw [HE.out, all_no HX.out (HDV.out.trans (by rw [HDP.out]; rfl))]; rfl)
                go_wp2_with fail
                go_ret
                exact ⟨ret_bool HE2.out.symm, bg⟩
              | true =>
                cases hoe : (L x.op).isEmpty with
                | false =>
                  have f1 : x.op.toList.isEmpty = false := by rw [isEmpty_L]; exact hoe
                  have HE2 : Hid (res = false) := Lib.hid (by rw [HE.out, all_no HX.out (HDV.out.trans (by rw [HDP.out, hoe]; rfl))]; rfl)
                  clear hoe
                  go_wp2_with fail
                  go_ret
                  exact ⟨ret_bool HE2.out.symm, bg⟩
                | true =>
                  have f1 : x.op.toList.isEmpty = true := by rw [isEmpty_L]; exact hoe
                  cases hk3 : (xk == 3) with
                  | true =>
                    have HE2 : Hid (res = false) := Lib.hid (by rw [HE.out, all_no HX.out (HDV.out.trans (by rw [HDP.out, hoe, hk3]; rfl))]; rfl)
                    clear hoe
                    go_wp2_with fail
                    go_ret
                    exact ⟨ret_bool HE2.out.symm, bg⟩
                  | false =>
                    cases hk4 : (xk == 4) with
                    | false =>
                      have HYES := Lib.hid (all_to HAL.out HX.out (HDV.out.trans (by rw [HDP.out, hoe, hk3, hk4]; rfl)))
                      clear hoe
                      go_wp2_with fail
                      go_roundw
                      case rel => exact ⟨k + 1, by omega, by go_num, HYES.out, BKr.out.later bg⟩
                      case measure => simp [intOf]; omega
                    | true =>
                      cases hh with
                      | true =>
                        have HE2 : Hid (res = false) := Lib.hid (by rw [HE.out, all_no HX.out (HDV.out.trans (by rw [HDP.out, hoe, hk3, hk4]; rfl))]; rfl)
                        clear hoe
                        go_wp2_with (go_at_call 43; with_reducible refine (CI.out _).mono ?_; rintro e w5 ⟨rfl, rfl⟩)
                        go_ret
                        exact ⟨ret_bool HE2.out.symm, bg⟩
                      | false =>
                        have HYES := Lib.hid (all_to HAL.out HX.out (HDV.out.trans (by rw [HDP.out, hoe, hk3, hk4]; rfl)))
                        clear hoe
                        go_wp2_with (go_at_call 43; with_reducible refine (CI.out _).mono ?_; rintro e w5 ⟨rfl, rfl⟩)
                        go_roundw
                        case rel => exact ⟨k + 1, by omega, by go_num, HYES.out, BKr.out.later bg⟩
                        case measure => simp [intOf]; omega
            · have HE1 : Hid (res = (r.word.isEmpty || (List.isSuffixOf [10] (L dt) && !standsL (L r.tag) [] (L dt)))) := Lib.hid (by rw [HE.out, all_end HAL.out (by rw [HLW.out]; omega), HST1.out]; rfl)
              obtain ⟨st, hst⟩ : ∃ b, standsL (L r.tag) [] (L dt) = b := ⟨_, rfl⟩
              rw [hst] at CSt HE1
              clear hst
              go_wp2_with fail
              refine (CDc.out _ bg).mono ?_
              rintro e w7 ⟨rfl, hb0⟩
              have hBw7 : Below w.heap.size w w7 := since hb0 bg
              have BKw7 := Lib.hid (Bk.later BKr.out (since hb0 bg))
              clear hb0
              clear p0 p1 p2 p3 pl
              have K1BKw7 := Lib.hid BKw7.out.b
              have hBBKw7 := BKw7.out.hb
              obtain ⟨p0, p1, p2, p3, pl⟩ := K1BKw7.out.box4
              have e2 := EW.out
              cases hwe : r.word.isEmpty with
              | true =>
                rw [hwe] at e2 HE1
                clear hwe
                go_wp2_with fail
                go_ret
                exact ⟨ret_bool HE1.out.symm, bg⟩
              | false =>
                rw [hwe] at e2 HE1
                clear hwe
                rcases Nat.eq_zero_or_pos dt.size with h0 | h0
                · have hnil : L dt = [] := List.length_eq_zero_iff.1 (by rw [L_size]; exact h0)
                  have e3 : dt.toList.isEmpty = true := by rw [isEmpty_L, hnil]; rfl
                  have HE2 : Hid (res = false) := Lib.hid (by rw [HE1.out, hnil]; rfl)
                  clear hnil h0
                  go_wp2_with fail
                  go_ret
                  exact ⟨ret_bool HE2.out.symm, bg⟩
                · have e3 : dt.toList.isEmpty = false := by rw [isEmpty_L]; exact not_nil_of_len (L_size dt) h0
                  have hidx := run_idx (P := Tryz.prog) Tryz.underlying9 dt (k := .i64) ((dt.size : Int) - 1) (dt.size - 1) (by omega) (by omega)
                  have HSF := Lib.hid (suffix_last (l := L dt) (by rw [L_size]; exact h0))
                  rw [L_size] at HSF
                  obtain ⟨lc, hlc⟩ : ∃ v, (L dt).getD (dt.size - 1) 0 = v := ⟨_, rfl⟩
                  rw [hlc] at hidx HSF
                  clear hlc
                  by_cases h10 : lc = 10
                  · have e10 : (((lc.toNat : Nat) : Int) == 10) = true := eq_byte h10
                    have HE2 : Hid (res = !st) := Lib.hid (by rw [HE1.out, HSF.out, h10]; rfl)
                    clear h10
                    go_wp2_with fail
                    refine (CSt.out _ bg).mono ?_
                    rintro e w8 ⟨rfl, hb0⟩
                    have hBw8 : Below w.heap.size w w8 := since hb0 bg
                    have BKw8 := Lib.hid (Bk.later BKw7.out (since hb0 bg))
                    clear hb0
                    go_wp2_with fail
                    go_ret
                    exact ⟨ret_bool HE2.out.symm, bg⟩
                  · have e10 : (((lc.toNat : Nat) : Int) == 10) = false := ne_byte h10
                    have HE2 : Hid (res = false) := Lib.hid (by rw [HE1.out, HSF.out, show (lc == 10) = false by simp [h10]]; rfl)
                    clear h10
                    go_wp2_with fail
                    go_ret
                    exact ⟨ret_bool HE2.out.symm, bg⟩
end Go.Proofs.YtnackmnoldkihaaGreatDoor
