/-
  A region's step by hand: an operation is taken first.
-/
import Derived.Test.YtnackmnoldkihaaGreatDoorW30
import Derived.Test.YtnackmnoldkihaaGreatDoorW12
import Derived.Test.YtnackmnoldkihaaGreatDoorW13
import Derived.Test.YtnackmnoldkihaaGreatDoorW1
import Derived.Deep.RegionHeld3
set_option linter.unusedVariables false
set_option linter.unusedSimpArgs false
/-
  The document's side: a command; every level.
-/
namespace Go.Proofs.YtnackmnoldkihaaGreatDoor
open Go.RowKit

def rnodeB (wd : List Pt → Bool) (ls : List Nd → Bool) (x : Nd) : Bool :=
 x.words.all (someB wd) && (x.redirs.all (redirB wd) && (x.lists.all (somesB ls) && (bif x.kind == 1 then simpleB wd x else bif decide (2 ≤ x.kind) && decide (x.kind ≤ 5) then rjoinedB x else rcompoundB wd ls x)))

set_option maxHeartbeats 1000000 in
set_option maxRecDepth 100000 in
theorem rnode_no (level deep : Int) (h : deep < level) (x : Nd) (w : World) (d : Nat) (c : List Value) (hp : NdC w w.heap.size d x c) :
 Calls Tryz.prog 40 #[.agg c.toArray, .int .i64 level, .int .i64 deep] w fun e w' => e = .returned (.bool false) ∧ Below w.heap.size w w' := by
 obtain ⟨a1, c1, a2, c2, a3, c3, a4, c4, a5, c5, rfl, _⟩ := hp.open
 have hg : decide (deep < level) = true := by simp [h]
 clear hp h
 go_enter Tryz.func40, Tryz.ntmps40
 go_wp2_with fail
 go_ret
 exact ⟨ret_bool rfl, bg⟩

set_option maxHeartbeats 4000000 in
set_option maxRecDepth 100000 in
theorem rnode_yes (wd : List Pt → Bool) (ls : List Nd → Bool) (level deep : Int) (hlv : level ≤ deep) (hl0 : 0 ≤ level) (hlb : level ≤ 2000) (hwd : RWordAt (level + 1) deep wd) (hls : RListAt (level + 1) deep ls) (x : Nd) (w : World) (d : Nat) (c : List Value) (hp : NdC w w.heap.size d x c) :
 Calls Tryz.prog 40 #[.agg c.toArray, .int .i64 level, .int .i64 deep] w fun e w' => e = .returned (.bool (rnodeB wd ls x)) ∧ Below w.heap.size w w' := by
 have CSi : Hid ((∀ y ∈ x.words, y ≠ []) → ∀ W, Below w.heap.size w W → Calls Tryz.prog 57 #[.agg c.toArray, .int .i64 level, .int .i64 deep] W fun e w' => e = .returned (.bool (simpleB wd x)) ∧ Below W.heap.size W w') := Lib.hid fun hne W hW => rsimple_any wd level deep hl0 hlb hwd x hne W d c (hp.later hW)
 have CJo : Hid (∀ W, Below w.heap.size w W → Calls Tryz.prog 58 #[.agg c.toArray] W fun e w' => e = .returned (.bool (rjoinedB x)) ∧ Below W.heap.size W w') := Lib.hid fun W hW => rjoined_any x W d c (hp.later hW)
 have CCo : Hid (∀ W, Below w.heap.size w W → Calls Tryz.prog 59 #[.agg c.toArray, .int .i64 level, .int .i64 deep] W fun e w' => e = .returned (.bool (rcompoundB wd ls x)) ∧ Below W.heap.size W w') := Lib.hid fun W hW => rcompound_any wd ls level deep hl0 hlb hwd hls x W d c (hp.later hW)
 obtain ⟨a1, c1, a2, c2, a3, c3, a4, c4, a5, c5, rfl, hxz, ⟨hn1, hn2, hn3, hn4, hn5⟩, hA, hW, hRd, hLs, hAr⟩ := hp.open
 obtain ⟨n1, hl1⟩ : ∃ n, x.assigns.length = n := ⟨_, rfl⟩
 obtain ⟨n2, hl2⟩ : ∃ n, x.words.length = n := ⟨_, rfl⟩
 obtain ⟨n3, hl3⟩ : ∃ n, x.redirs.length = n := ⟨_, rfl⟩
 obtain ⟨n4, hl4⟩ : ∃ n, x.lists.length = n := ⟨_, rfl⟩
 obtain ⟨n5, hl5⟩ : ∃ n, x.arms.length = n := ⟨_, rfl⟩
 rw [hl1] at hn1 CSi CJo CCo ⊢
 rw [hl2] at hn2 hW CSi CJo CCo ⊢
 rw [hl3] at hn3 hRd CSi CJo CCo ⊢
 rw [hl4] at hn4 hLs CSi CJo CCo ⊢
 rw [hl5] at hn5 CSi CJo CCo ⊢
 have HW := Lib.hid hW
 have HRD := Lib.hid hRd
 have HLS := Lib.hid hLs
 have N2 := Lib.hid hl2
 have N3 := Lib.hid hl3
 have N4 := Lib.hid hl4
 have HWD := Lib.hid hwd
 have HLSS := Lib.hid hls
 have hg : decide (deep < level) = false := by simp [hlv]
 have BK := Lib.hid (Bk.start w 64 #[.int .i64 x.kind, .string x.name, .slice a1 n1 c1, .slice a2 n2 c2, .slice a3 n3 c3, .slice a4 n4 c4, .slice a5 n5 c5])
 obtain ⟨r, hr⟩ : ∃ r, rnodeB wd ls x = r := ⟨_, rfl⟩
 rw [hr]
 rw [rnodeB] at hr
 obtain ⟨rs, hrs⟩ : ∃ b, simpleB wd x = b := ⟨_, rfl⟩
 obtain ⟨rj, hrj⟩ : ∃ b, rjoinedB x = b := ⟨_, rfl⟩
 obtain ⟨rc, hrc⟩ : ∃ b, rcompoundB wd ls x = b := ⟨_, rfl⟩
 rw [hrs, hrj, hrc] at hr
 rw [hrs] at CSi
 rw [hrj] at CJo
 rw [hrc] at CCo
 obtain ⟨xk, hxk⟩ : ∃ v, x.kind = v := ⟨_, rfl⟩
 rw [hxk] at hr CSi CJo CCo BK ⊢
 have HR := Lib.hid hr.symm
 clear hp hr hA hW hRd hLs hAr hl1 hl2 hl3 hl4 hl5 hwd hls hrs hrj hrc hxk hlv
 go_enter Tryz.func40, Tryz.ntmps40
 go_wp2_with fail
 go_loopw [7] (fun i W => ∃ k : Nat, k ≤ n2 ∧ i = .int .i64 k ∧ (x.words.take k).all (someB wd) = true ∧ Bk w W 64 #[.int .i64 xk, .string x.name, .slice a1 n1 c1, .slice a2 n2 c2, .slice a3 n3 c3, .slice a4 n4 c4, .slice a5 n5 c5]) (fun i _ => n2 - (intOf i).toNat)
 case atStart => exact ⟨0, Nat.zero_le _, rfl, by simp, BK.out⟩
 case round =>
  obtain ⟨k, hk, rfl, hal, hbk⟩ := hrel
  have HAL := Lib.hid hal
  have BK1 := Lib.hid hbk
  clear hal hbk
  have K1BK1 := Lib.hid BK1.out.b
  have hBBK1 := BK1.out.hb
  obtain ⟨p0, p1, p2, p3, p4, p5, p6, pl⟩ := K1BK1.out.box7
  by_cases hlt : k < n2
  · obtain ⟨y, hy⟩ : ∃ y, x.words[k]? = .some y := ⟨_, List.getElem?_eq_getElem (by rw [N2.out]; exact hlt)⟩
    obtain ⟨b, o, c, hi, hbB, hce, ⟨yv, rfl, hyp⟩, _⟩ := HW.out.at 59 41 Tryz.underlying59 (by kernel_rfl) hy
    have HY := Lib.hid hy
    obtain ⟨a6, c6, rfl, _⟩ := hyp.shape
    have CW := Lib.hid (HWD.out.reads hyp true)
    have e0 := (hBBK1.cell hbB).trans (hce 0 _ rfl)
    have hbB' := Nat.lt_of_lt_of_le hbB hBBK1.size
    rw [Nat.add_zero] at e0
    obtain ⟨rr, hrr⟩ : ∃ r, (wd y && (!true || !y.isEmpty)) = r := ⟨_, rfl⟩
    rw [hrr] at CW
    have HS : Hid (someB wd y = rr) := Lib.hid (by rw [← hrr, someB]; simp)
    clear hy hce hyp hrr
    go_wp2_with fail
    refine (CW.out _ bg).mono ?_
    rintro e w1 ⟨rfl, hb0⟩
    have hBw1 : Below w.heap.size w w1 := since hb0 bg
    have BKw1 := Lib.hid (Bk.later BK1.out (since hb0 bg))
    clear hb0
    cases rr with
    | false =>
      have HE : Hid (r = false) := Lib.hid (by rw [HR.out, all_no HY.out HS.out]; rfl)
      go_wp2_with fail
      go_ret
      exact ⟨ret_bool HE.out.symm, bg⟩
    | true =>
      go_wp2_with fail
      go_roundw
      case rel => exact ⟨k + 1, by omega, by go_num, all_to HAL.out HY.out HS.out, BKw1.out⟩
      case measure => simp [intOf]; omega
  · have HALL : Hid (x.words.all (someB wd) = true) := Lib.hid (all_end HAL.out (by rw [N2.out]; omega))
    have CSi2 := Lib.hid (CSi.out fun y hy => by
     have := List.all_eq_true.1 HALL.out y hy
     rw [someB, Bool.and_eq_true] at this
     intro e
     rw [e] at this
     simp at this)
    have HR1 := Lib.hid (HR.out.trans (by rw [HALL.out, Bool.true_and]))
    clear HAL HALL CSi HR
    go_wp2_with fail
    clear p0 p1 p2 p3 p4 p5 p6 pl
    go_loopw [8] (fun i W => ∃ k : Nat, k ≤ n3 ∧ i = .int .i64 k ∧ (x.redirs.take k).all (redirB wd) = true ∧ Bk w W 64 #[.int .i64 xk, .string x.name, .slice a1 n1 c1, .slice a2 n2 c2, .slice a3 n3 c3, .slice a4 n4 c4, .slice a5 n5 c5]) (fun i _ => n3 - (intOf i).toNat)
    case atStart => exact ⟨0, Nat.zero_le _, rfl, by simp, BK1.out⟩
    case round =>
     obtain ⟨k, hk, rfl, hal, hbk⟩ := hrel
     have HAL := Lib.hid hal
     have BK2 := Lib.hid hbk
     clear hal hbk
     have K1BK2 := Lib.hid BK2.out.b
     have hBBK2 := BK2.out.hb
     obtain ⟨p0, p1, p2, p3, p4, p5, p6, pl⟩ := K1BK2.out.box7
     by_cases hlt : k < n3
     · obtain ⟨y, hy⟩ : ∃ y, x.redirs[k]? = .some y := ⟨_, List.getElem?_eq_getElem (by rw [N3.out]; exact hlt)⟩
       obtain ⟨b, o, c, hi, hbB, hce, hyc, _⟩ := HRD.out.at 60 100 Tryz.underlying60 (by kernel_rfl) hy
       have HY := Lib.hid hy
       have HYC := Lib.hid hyc
       obtain ⟨a6, c6, rfl, _⟩ := hyc.open
       have CR : Hid (∀ W, Below w.heap.size w W → _) := Lib.hid fun W (hW : Below w.heap.size w W) => rredir_any wd (level + 1) deep HWD.out y W d _ (HYC.out.later hW)
       have e0 := (hBBK2.cell hbB).trans (hce 0 _ rfl)
       have e1 := (hBBK2.cell hbB).trans (hce 1 _ rfl)
       have e2 := (hBBK2.cell hbB).trans (hce 2 _ rfl)
       have e3 := (hBBK2.cell hbB).trans (hce 3 _ rfl)
       have hbB' := Nat.lt_of_lt_of_le hbB hBBK2.size
       rw [Nat.add_zero] at e0
       obtain ⟨rr, hrr⟩ : ∃ r, redirB wd y = r := ⟨_, rfl⟩
       rw [hrr] at CR
       have HS := Lib.hid hrr
       clear hy hce hyc hrr
       go_wp2_with fail
       refine (CR.out _ bg).mono ?_
       rintro e w2 ⟨rfl, hb0⟩
       have hBw2 : Below w.heap.size w w2 := since hb0 bg
       have BKw2 := Lib.hid (Bk.later BK2.out (since hb0 bg))
       clear hb0
       cases rr with
       | false =>
         have HE : Hid (r = false) := Lib.hid (by rw [HR1.out, all_no HY.out HS.out]; rfl)
         go_wp2_with fail
         go_ret
         exact ⟨ret_bool HE.out.symm, bg⟩
       | true =>
         go_wp2_with fail
         go_roundw
         case rel => exact ⟨k + 1, by omega, by go_num, all_to HAL.out HY.out HS.out, BKw2.out⟩
         case measure => simp [intOf]; omega
     · have HALL : Hid (x.redirs.all (redirB wd) = true) := Lib.hid (all_end HAL.out (by rw [N3.out]; omega))
       have HR2 := Lib.hid (HR1.out.trans (by rw [HALL.out, Bool.true_and]))
       clear HAL HALL HR1
       go_wp2_with fail
       clear p0 p1 p2 p3 p4 p5 p6 pl
       go_loopw [9] (fun i W => ∃ k : Nat, k ≤ n4 ∧ i = .int .i64 k ∧ (x.lists.take k).all (somesB ls) = true ∧ Bk w W 64 #[.int .i64 xk, .string x.name, .slice a1 n1 c1, .slice a2 n2 c2, .slice a3 n3 c3, .slice a4 n4 c4, .slice a5 n5 c5]) (fun i _ => n4 - (intOf i).toNat)
       case atStart => exact ⟨0, Nat.zero_le _, rfl, by simp, BK2.out⟩
       case round =>
        obtain ⟨k, hk, rfl, hal, hbk⟩ := hrel
        have HAL := Lib.hid hal
        have BK3 := Lib.hid hbk
        clear hal hbk
        have K1BK3 := Lib.hid BK3.out.b
        have hBBK3 := BK3.out.hb
        obtain ⟨p0, p1, p2, p3, p4, p5, p6, pl⟩ := K1BK3.out.box7
        by_cases hlt : k < n4
        · obtain ⟨y, hy⟩ : ∃ y, x.lists[k]? = .some y := ⟨_, List.getElem?_eq_getElem (by rw [N4.out]; exact hlt)⟩
          obtain ⟨b, o, c, hi, hbB, hce, ⟨yv, rfl, hyp⟩, _⟩ := HLS.out.at 61 25 Tryz.underlying61 (by kernel_rfl) hy
          have HY := Lib.hid hy
          obtain ⟨a6, c6, rfl, _⟩ := hyp.shape
          have CW := Lib.hid (HLSS.out.reads hyp false)
          have e0 := (hBBK3.cell hbB).trans (hce 0 _ rfl)
          have hbB' := Nat.lt_of_lt_of_le hbB hBBK3.size
          rw [Nat.add_zero] at e0
          obtain ⟨rr, hrr⟩ : ∃ r, (ls y && (false || !y.isEmpty)) = r := ⟨_, rfl⟩
          rw [hrr] at CW
          have HS : Hid (somesB ls y = rr) := Lib.hid (by rw [← hrr, somesB]; simp)
          clear hy hce hyp hrr
          go_wp2_with fail
          refine (CW.out _ bg).mono ?_
          rintro e w3 ⟨rfl, hb0⟩
          have hBw3 : Below w.heap.size w w3 := since hb0 bg
          have BKw3 := Lib.hid (Bk.later BK3.out (since hb0 bg))
          clear hb0
          cases rr with
          | false =>
            have HE : Hid (r = false) := Lib.hid (by rw [HR2.out, all_no HY.out HS.out]; rfl)
            go_wp2_with fail
            go_ret
            exact ⟨ret_bool HE.out.symm, bg⟩
          | true =>
            go_wp2_with fail
            go_roundw
            case rel => exact ⟨k + 1, by omega, by go_num, all_to HAL.out HY.out HS.out, BKw3.out⟩
            case measure => simp [intOf]; omega
        · have HALL : Hid (x.lists.all (somesB ls) = true) := Lib.hid (all_end HAL.out (by rw [N4.out]; omega))
          have HR3 := Lib.hid (HR2.out.trans (by rw [HALL.out, Bool.true_and]))
          clear HAL HALL HR2
          cases hk1 : (xk == 1) with
          | true =>
            have HE : Hid (r = rs) := Lib.hid (HR3.out.trans (by rw [hk1]; rfl))
            go_wp2_with fail
            refine (CSi2.out _ bg).mono ?_
            rintro e w5 ⟨rfl, hb0⟩
            have hBw5 : Below w.heap.size w w5 := since hb0 bg
            have BKw5 := Lib.hid (Bk.later BK3.out (since hb0 bg))
            clear hb0
            go_wp2_with fail
            go_ret
            exact ⟨ret_bool HE.out.symm, bg⟩
          | false =>
            by_cases h2 : 2 ≤ xk ∧ xk ≤ 5
            · have q2 : decide (2 ≤ xk) = true := by simp [h2.1]
              have q5 : decide (xk ≤ 5) = true := by simp [h2.2]
              have HE : Hid (r = rj) := Lib.hid (HR3.out.trans (by rw [hk1, q2, q5]; rfl))
              clear h2
              go_wp2_with fail
              refine (CJo.out _ bg).mono ?_
              rintro e w5 ⟨rfl, hb0⟩
              have hBw5 : Below w.heap.size w w5 := since hb0 bg
              have BKw5 := Lib.hid (Bk.later BK3.out (since hb0 bg))
              clear hb0
              go_wp2_with fail
              go_ret
              exact ⟨ret_bool HE.out.symm, bg⟩
            · have HE : Hid (r = rc) := Lib.hid (HR3.out.trans (by
               rw [hk1, show (decide (2 ≤ xk) && decide (xk ≤ 5)) = false by simp; omega]; rfl))
              by_cases h3 : 2 ≤ xk
              · have q2 : decide (2 ≤ xk) = true := by simp [h3]
                have q5 : decide (xk ≤ 5) = false := by simp; omega
                clear h2 h3
                go_wp2_with fail
                refine (CCo.out _ bg).mono ?_
                rintro e w5 ⟨rfl, hb0⟩
                have hBw5 : Below w.heap.size w w5 := since hb0 bg
                have BKw5 := Lib.hid (Bk.later BK3.out (since hb0 bg))
                clear hb0
                go_wp2_with fail
                go_ret
                exact ⟨ret_bool HE.out.symm, bg⟩
              · have q2 : decide (2 ≤ xk) = false := by simp; omega
                clear h2 h3
                go_wp2_with fail
                refine (CCo.out _ bg).mono ?_
                rintro e w5 ⟨rfl, hb0⟩
                have hBw5 : Below w.heap.size w w5 := since hb0 bg
                have BKw5 := Lib.hid (Bk.later BK3.out (since hb0 bg))
                clear hb0
                go_wp2_with fail
                go_ret
                exact ⟨ret_bool HE.out.symm, bg⟩

/-! ### it is the program's test -/
theorem soleB_congr {f g : Nat → Int → Bool} : ∀ (l : List (List Nd)) (i : Nat), (∀ j z, i ≤ j → j < i + l.length → [z] ∈ l → f j z.kind = g j z.kind) → soleB f i l = soleB g i l
 | [], _, _ => rfl
 | y :: l, i, h => by
   have ih := soleB_congr l (i + 1) fun j z h1 h2 h3 => h j z (by omega) (by simp; omega) (by simp [h3])
   rw [soleB_cons, soleB_cons, ih]
   congr 1
   match y with
   | [] => rfl
   | [z] => exact h i z (Nat.le_refl _) (by simp) (by simp)
   | _ :: _ :: _ => rfl
theorem sole_alone {f : Nat → Int → Bool} : ∀ (l : List (List Nd)) (i : Nat), soleB f i l = true → (l.all fun y => decide (y.length = 1)) = true
 | [], _, _ => rfl
 | y :: l, i, h => by
   rw [soleB_cons, Bool.and_eq_true] at h
   rw [List.all_cons, sole_alone l (i + 1) h.2, Bool.and_true]
   match y, h.1 with
   | [z], _ => rfl
theorem alone_sole {f : Nat → Int → Bool} (x : Nd) : (aloneL x && soleB f 0 x.lists) = soleB f 0 x.lists := by
 cases h : soleB f 0 x.lists with
 | false => rw [Bool.and_false]
 | true => rw [aloneL, sole_alone _ _ h]; rfl
end Go.Proofs.YtnackmnoldkihaaGreatDoor
/-
  The document's test of a command is the program's; every level.
-/
namespace Go.Proofs.YtnackmnoldkihaaGreatDoor
open Go.RowKit

section
variable {wd : List Pt → Bool} {ls : List Nd → Bool}
theorem sole_of (x : Nd) (hls : ∀ z, ls [z] = true → 1 ≤ z.kind) (hS : x.lists.all (somesB ls) = true) {f g : Nat → Int → Bool} (n : Nat) (hn : x.lists.length ≤ n) (hfg : ∀ j z, j < n → 1 ≤ z → f j z = g j z) : soleB f 0 x.lists = soleB g 0 x.lists :=
 soleB_congr _ _ fun j z _ h2 h3 => hfg j z.kind (by omega) (hls z (by
  have := List.all_eq_true.1 hS _ h3
  rw [somesB, Bool.and_eq_true] at this
  exact this.1))
theorem joined_eq (x : Nd) (hls : ∀ z, ls [z] = true → 1 ≤ z.kind) (hk : x.kind = 2 ∨ x.kind = 3 ∨ x.kind = 4 ∨ x.kind = 5) : (x.lists.all (somesB ls) && rjoinedB x) = joinedB ls x := by
 rw [rjoinedB, joinedB, ← Bool.and_assoc (aloneL x), alone_sole]
 cases hS : x.lists.all (somesB ls) with
 | false =>
   simp only [aloneB, hS, Bool.false_and, Bool.and_false]
   cases x.kind == 2 <;> cases x.kind == 5 <;> simp
 | true =>
   simp only [aloneB, hS, Bool.true_and]
   congr 1
   rcases hk with hk | hk | hk | hk
   · rw [hk]
     rw [sole_of (g := mayPipe) x hls hS x.lists.length (Nat.le_refl _) fun j z _ hz => by
      rw [Bool.eq_iff_iff]; simp [rjBad, mayPipe]; omega]
     show (soleB mayPipe 0 x.lists && decide (2 ≤ x.lists.length)) = (decide (2 ≤ x.lists.length) && soleB mayPipe 0 x.lists)
     rw [Bool.and_comm]
   · rw [hk]
     show (soleB _ 0 x.lists && decide (x.lists.length = 2)) = (decide (x.lists.length = 2) && (decide (2 ≤ x.lists.length) && soleB mayAnd 0 x.lists))
     by_cases h2 : x.lists.length = 2
     · rw [sole_of (g := mayAnd) x hls hS 2 (Nat.le_of_eq h2) fun j z hj hz => by
        rw [Bool.eq_iff_iff]; simp [rjBad, mayAnd]; omega]
       simp [h2]
     · simp [h2]
   · rw [hk]
     show (soleB _ 0 x.lists && decide (x.lists.length = 2)) = (decide (x.lists.length = 2) && (decide (2 ≤ x.lists.length) && soleB mayAnd 0 x.lists))
     by_cases h2 : x.lists.length = 2
     · rw [sole_of (g := mayAnd) x hls hS 2 (Nat.le_of_eq h2) fun j z hj hz => by
        rw [Bool.eq_iff_iff]; simp [rjBad, mayAnd]; omega]
       simp [h2]
     · simp [h2]
   · rw [hk]
     show (soleB _ 0 x.lists && decide (x.lists.length = 1)) = (decide (x.lists.length = 1) && (decide (1 ≤ x.lists.length) && soleB mayNot 0 x.lists))
     rw [sole_of (g := mayNot) x hls hS x.lists.length (Nat.le_refl _) fun j z _ hz => by
      rw [Bool.eq_iff_iff]; simp [rjBad, mayNot]; omega]
     by_cases h1 : x.lists.length = 1
     · simp [h1]
     · simp [h1]
theorem compound_eq (x : Nd) : (x.lists.all (somesB ls) && rcompoundB wd ls x) = compoundB wd ls x := by
 rw [rcompoundB, compoundB]
 simp only [listsB, bareN, aloneB]
 have h11 : decide (x.lists.length = 1) = true → (aloneL x && (decide (6 ≤ kind0 x) && kind0 x != 11)) = soleB mayFunc 0 x.lists := fun h => by
  obtain ⟨y, hy⟩ := List.length_eq_one_iff.1 (of_decide_eq_true h)
  rw [aloneL, kind0, hy]
  match y with
  | [] => rfl
  | [z] =>
    show ((decide ([z].length = 1) && true) && (decide (6 ≤ z.kind) && z.kind != 11)) = (mayFunc 0 z.kind && true)
    rw [mayFunc]; simp
  | _ :: _ :: _ => rfl
 have h12 : decide (x.lists.length = 1) = true → decide (1 ≤ x.lists.length) = true := fun h => by have := of_decide_eq_true h; simp; omega
 generalize (aloneL x && (decide (6 ≤ kind0 x) && kind0 x != 11)) = k1 at h11 ⊢
 generalize soleB mayFunc 0 x.lists = k2 at h11 ⊢
 generalize decide (1 ≤ x.lists.length) = k3 at h12 ⊢
 generalize x.lists.all (somesB ls) = s
 generalize x.assigns.isEmpty = a
 generalize (L x.name).isEmpty = n
 generalize x.words.isEmpty = w
 generalize x.arms.isEmpty = m
 generalize x.redirs.isEmpty = q
 generalize nameL (L x.name) = nm
 generalize oneB reservedWs (L x.name) = rs
 generalize x.arms.all (armB wd ls) = ar
 generalize decide (x.words.length = 1) = w1
 cases x.kind == 6
 · cases x.kind == 7 || x.kind == 8
   · cases x.kind == 12 || x.kind == 13
     · cases x.kind == 9
       · cases h : x.kind == 11
         · cases x.kind == 10
           · simp
           · simp only [cond_false, cond_true]
             generalize decide (x.lists.length = 0) = d0
             cases s <;> cases a <;> cases n <;> cases ar <;> cases w1 <;> cases d0 <;> rfl
         · have h10 : (x.kind == 10) = false := by rw [beq_iff_eq] at h; rw [h]; rfl
           rw [h10]
           simp only [cond_false, cond_true]
           generalize decide (x.lists.length = 1) = d1 at h11 h12 ⊢
           cases d1
           · cases s <;> cases a <;> cases nm <;> cases rs <;> simp
           · rw [h11 rfl, h12 rfl]
             cases s <;> cases a <;> cases nm <;> cases rs <;> cases k2 <;> cases w <;> cases m <;> cases q <;> rfl
       · simp only [cond_true, cond_false]
         generalize decide (x.lists.length = 1) = d1
         cases s <;> cases a <;> cases nm <;> cases m <;> cases d1 <;> rfl
     · simp only [cond_true, cond_false]
       generalize decide (x.lists.length = 1) = d1
       cases s <;> cases a <;> cases n <;> cases w <;> cases m <;> cases d1 <;> rfl
   · simp only [cond_true, cond_false]
     generalize decide (x.lists.length = 2) = d1
     cases s <;> cases a <;> cases n <;> cases w <;> cases m <;> cases d1 <;> rfl
 · simp only [cond_true]
   generalize decide (x.lists.length = 2) = d1
   generalize decide (x.lists.length = 3) = d2
   cases s <;> cases a <;> cases n <;> cases w <;> cases m <;> cases d1 <;> cases d2 <;> rfl
theorem simple_eq (x : Nd) : (x.lists.all (somesB ls) && simpleB wd x) = simpleB wd x := by
 cases h : simpleB wd x with
 | false => rw [Bool.and_false]
 | true =>
   rw [simpleB] at h
   simp only [Bool.and_eq_true] at h
   have h2 : x.lists = [] := List.isEmpty_iff.1 h.2.2.2.1.1
   rw [h2]; rfl
theorem rnode_eq (x : Nd) (hls : ∀ z, ls [z] = true → 1 ≤ z.kind) : rnodeB wd ls x = nodeB wd ls x := by
 rw [rnodeB, nodeB]
 congr 2
 by_cases h1 : x.kind = 1
 · rw [h1]; exact simple_eq x
 · have k1 : (x.kind == 1) = false := by simp [h1]
   rw [k1, cond_false, cond_false]
   by_cases h2 : 2 ≤ x.kind ∧ x.kind ≤ 5
   · rw [show (decide (2 ≤ x.kind) && decide (x.kind ≤ 5)) = true by simp [h2.1, h2.2], cond_true, joined_eq x hls (by omega),
      show ((x.kind == 2 || x.kind == 3) || (x.kind == 4 || x.kind == 5)) = true by simp; omega, cond_true]
   · rw [show (decide (2 ≤ x.kind) && decide (x.kind ≤ 5)) = false by simp; omega, cond_false, compound_eq x,
      show ((x.kind == 2 || x.kind == 3) || (x.kind == 4 || x.kind == 5)) = false by simp; omega, cond_false]
theorem node_kind (x : Nd) (h : nodeB wd ls x = true) : 1 ≤ x.kind := by
 rcases Int.lt_or_le x.kind 1 with h0 | h0
 · exfalso
   rw [nodeB] at h
   simp only [Bool.and_eq_true] at h
   have h3 := h.2.2
   rw [show (x.kind == 1) = false by simp; omega, show ((x.kind == 2 || x.kind == 3) || (x.kind == 4 || x.kind == 5)) = false by simp; omega, cond_false, cond_false, compoundB,
    show (x.kind == 6) = false by simp; omega, show (x.kind == 7 || x.kind == 8) = false by simp; omega, show (x.kind == 12 || x.kind == 13) = false by simp; omega,
    show (x.kind == 9) = false by simp; omega, show (x.kind == 10) = false by simp; omega, show (x.kind == 11) = false by simp; omega] at h3
   cases h3
 · exact h0
end
theorem ok_kind (n : Nat) (z : Nd) (h : okL n [z] = true) : 1 ≤ z.kind := by
 cases n with
 | zero => rw [okL] at h; cases h
 | succ n =>
   rw [okL, List.all_cons, Bool.and_eq_true] at h
   exact node_kind z h.1

/-- Word and List of the document, at every level. -/
theorem rlevels (deep : Int) (hd : deep ≤ 1001) : ∀ (n : Nat) (level : Int), 1 ≤ level → level ≤ 1002 → (deep - level + 1).toNat = n → RWordAt level deep (okW n) ∧ RListAt level deep (okL n)
 | 0, level, h1, h2, hn => by
   have hp := rword_any level deep (fun _ => false) fun W x d c h => rpart_no level deep (by omega) x W d c h
   have hl := rlist_any level deep (fun _ => false) fun W x d c h => rnode_no level deep (by omega) x W d c h
   have e1 : (partsB (fun (q : Option Pt) x => false && !confB q x) none) = okW 0 := by
    funext l; cases l <;> rfl
   have e2 : (fun l : List Nd => l.all fun _ => false) = okL 0 := by
    funext l; cases l <;> rfl
   rw [e1] at hp
   rw [e2] at hl
   exact ⟨hp, hl⟩
 | n + 1, level, h1, h2, hn => by
   obtain ⟨i1, i2⟩ := rlevels deep hd n (level + 1) (by omega) (by omega) (by omega)
   have hp := rword_any level deep (partB (okW n) (okL n) none) fun W x d c h => rpart_yes (okW n) (okL n) level deep (by omega) (by omega) (by omega) i1 i2 x W d c h
   have hl := rlist_any level deep (rnodeB (okW n) (okL n)) fun W x d c h => rnode_yes (okW n) (okL n) level deep (by omega) (by omega) (by omega) i1 i2 x W d c h
   have e1 : (partsB (fun q x => partB (okW n) (okL n) none x && !confB q x) none) = okW (n + 1) := by
    funext l
    rw [okW]
    congr 1
    funext q x
    rw [part_conf (okW n) (okL n) q x]
   have e2 : (fun l : List Nd => l.all (rnodeB (okW n) (okL n))) = okL (n + 1) := by
    funext l
    rw [okL]
    congr 1
    funext x
    exact rnode_eq x fun z hz => ok_kind n z hz
   rw [e1] at hp
   rw [e2] at hl
   exact ⟨hp, hl⟩
end Go.Proofs.YtnackmnoldkihaaGreatDoor
/-
  What is written behind a text hangs on nothing that stands ahead; a word leaves the here-documents alone.
-/
namespace Go.Proofs.YtnackmnoldkihaaGreatDoor
open Go.RowKit

/-- Behind a text. -/
def sh (t : List UInt8) (s : St) : St := (t ++ s.1, s.2)
def Adds {α : Type} (f : St → α → St) : Prop := ∀ s x, f s x = putS s (f ([], []) x).1
def Shifts {α : Type} (f : St → α → St) : Prop := ∀ t s x, f (sh t s) x = sh t (f s x)
theorem putS_sh (t : List UInt8) (s : St) (u : List UInt8) : putS (sh t s) u = sh t (putS s u) := by simp [putS, sh]
theorem putS_put (s : St) (u v : List UInt8) : putS (putS s u) v = putS s (u ++ v) := by simp [putS]
theorem lineS_sh (t : List UInt8) (s : St) : lineS (sh t s) = sh t (lineS s) := by simp [lineS, sh]
theorem nextS_sh (t : List UInt8) (s : St) (b : Bool) : nextS (sh t s) b = sh t (nextS s b) := by cases b <;> simp [nextS, putS_sh]
theorem cond_sh (t : List UInt8) (b : Bool) (x y : St) : cond b (sh t x) (sh t y) = sh t (cond b x y) := by cases b <;> rfl
theorem Adds.shifts {α : Type} {f : St → α → St} (h : Adds f) : Shifts f := fun t s x => by
 rw [h (sh t s), h s, putS_sh]
theorem Shifts.zero {α : Type} {f : St → α → St} (h : Shifts f) (t : List UInt8) (ds : List Rd) (x : α) : f (t, ds) x = sh t (f ([], ds) x) := by
 have := h t ([], ds) x
 rwa [show sh t ([], ds) = (t, ds) by simp [sh]] at this
theorem fold_shifts {α : Type} {f : St → α → St} (h : Shifts f) : Shifts (fun s (l : List α) => l.foldl f s) := fun t s l => by
 induction l generalizing s with
 | nil => rfl
 | cons x l ih =>
   have ih' : ∀ s, l.foldl f (sh t s) = sh t (l.foldl f s) := ih
   show (x :: l).foldl f (sh t s) = sh t ((x :: l).foldl f s)
   rw [List.foldl_cons, List.foldl_cons, h, ih']
theorem fold_adds {α : Type} {f : St → α → St} (h : Adds f) : Adds (fun s (l : List α) => l.foldl f s) := fun s l => by
 induction l generalizing s with
 | nil => simp [putS]
 | cons x l ih =>
   simp only [List.foldl_cons] at ih ⊢
   rw [ih, h s, ih (f ([], []) x), h ([], []) x]
   simp [putS]
section
variable {wd : St → List Pt → St} {ls : St → List Nd → St} {nd : St → Nd → St} (hw : Adds wd) (hl : Shifts ls) (hn : Shifts nd)
include hw
theorem paramS_adds : Adds (paramS wd) := fun s p => by
 simp only [paramS]
 cases (L p.op).isEmpty
 · cases L p.op == [108, 101, 110]
   · simp only [cond_false]
     rw [hw (putS s _), hw (putS ([], []) _)]
     simp [putS]
   · simp [putS]
 · simp [putS]
include hl
theorem coreS_adds : Adds (coreS wd ls) := fun s p => by
 simp only [coreS]
 cases p.kind == 2
 · cases p.kind == 3
   · simp [putS]
   · simp only [cond_true, cond_false]
     rw [show (s.1 ++ [36, 40, 10], ([] : List Rd)) = sh s.1 ([36, 40, 10], []) from rfl, hl]
     simp [putS, sh]
 · exact paramS_adds hw s p
theorem partS_adds : Adds (partS wd ls) := fun s p => by
 simp only [partS]
 cases p.kind == 1
 · cases p.quoted
   · exact coreS_adds hw hl s p
   · simp only [cond_true, cond_false]
     rw [coreS_adds hw hl (putS s _), coreS_adds hw hl (putS ([], []) _)]
     simp [putS]
 · simp [putS]
omit hl
theorem redirS_shifts : Shifts (redirS wd) := fun t s r => by
 simp only [redirS, putS_sh]
 cases L r.op == [60, 60]
 · exact hw.shifts t _ _
 · rfl
theorem redirsS_shifts (l : List Rd) : ∀ (t : List UInt8) (s : St) (b : Bool), redirsS wd (sh t s) l b = sh t (redirsS wd s l b) := by
 induction l with
 | nil => exact fun t s b => rfl
 | cons r l ih => intro t s b; simp only [redirsS]; rw [nextS_sh, redirS_shifts hw, ih]
theorem assignsS_shifts (l : List As) : ∀ (t : List UInt8) (s : St) (b : Bool), assignsS wd (sh t s) l b = sh t (assignsS wd s l b) := by
 induction l with
 | nil => exact fun t s b => rfl
 | cons r l ih => intro t s b; simp only [assignsS]; rw [nextS_sh, putS_sh, hw.shifts, ih]
theorem wordsS_shifts (l : List (List Pt)) : ∀ (t : List UInt8) (s : St) (b : Bool), wordsS wd (sh t s) l b = sh t (wordsS wd s l b) := by
 induction l with
 | nil => exact fun t s b => rfl
 | cons r l ih => intro t s b; simp only [wordsS]; rw [nextS_sh, hw.shifts, ih]
theorem barsS_shifts (l : List (List Pt)) : ∀ (t : List UInt8) (s : St) (b : Bool), barsS wd (sh t s) l b = sh t (barsS wd s l b) := by
 induction l with
 | nil => exact fun t s b => rfl
 | cons r l ih => intro t s b; simp only [barsS]; rw [putS_sh, cond_sh, hw.shifts, ih]
theorem simpleS_shifts : Shifts (simpleS wd) := fun t s x => by
 simp only [simpleS]; rw [assignsS_shifts hw, wordsS_shifts hw, redirsS_shifts hw]
omit hw
include hl
theorem blockS_shifts (head : List UInt8) (t : List UInt8) (s : St) (l : List Nd) : blockS ls (sh t s) head l = sh t (blockS ls s head l) := by
 simp only [blockS]; rw [putS_sh, lineS_sh, hl]
include hw
theorem armS_shifts : Shifts (armS wd ls) := fun t s a => by
 simp only [armS]; rw [putS_sh, barsS_shifts hw, blockS_shifts hl, putS_sh, lineS_sh]
theorem caseS_shifts : Shifts (caseS wd ls) := fun t s x => by
 simp only [caseS]; rw [putS_sh, hw.shifts, putS_sh, lineS_sh]
 have := fold_shifts (armS_shifts hw hl) t (lineS (putS (wd (putS s [99, 97, 115, 101, 32]) (firstW x)) [32, 105, 110])) x.arms
 simp only at this
 rw [this, putS_sh]
theorem compS_shifts : Shifts (compS wd ls) := fun t s x => by
 simp only [compS]
 cases x.kind == 6
 · cases x.kind == 7
   · cases x.kind == 8
     · cases x.kind == 9
       · cases x.kind == 10
         · cases x.kind == 12 <;> (simp only [cond_true, cond_false]; rw [blockS_shifts hl, putS_sh])
         · exact caseS_shifts hw hl t s x
       · simp only [cond_true, cond_false]; rw [putS_sh, wordsS_shifts hw, lineS_sh, blockS_shifts hl, putS_sh]
     · simp only [cond_true, cond_false]; rw [blockS_shifts hl, blockS_shifts hl, putS_sh]
   · simp only [cond_true, cond_false]; rw [blockS_shifts hl, blockS_shifts hl, putS_sh]
 · simp only [cond_true]
   cases decide (2 < x.lists.length)
   · simp only [cond_false]; rw [blockS_shifts hl, blockS_shifts hl, putS_sh]
   · simp only [cond_true]; rw [blockS_shifts hl, blockS_shifts hl, blockS_shifts hl, putS_sh]
omit hw hl
include hn
theorem oneS_shifts : Shifts (oneS nd) := fun t s l => by
 cases l with
 | nil => rfl
 | cons x r => exact hn t s x
theorem joinS_shifts (sign : List UInt8) (l : List (List Nd)) : ∀ (t : List UInt8) (s : St) (b : Bool), joinS nd sign (sh t s) l b = sh t (joinS nd sign s l b) := by
 induction l with
 | nil => exact fun t s b => rfl
 | cons r l ih => intro t s b; simp only [joinS]; rw [putS_sh, cond_sh, oneS_shifts hn, ih]
include hw hl
theorem bodyS_shifts : Shifts (bodyS wd ls nd) := fun t s x => by
 simp only [bodyS]
 cases x.kind == 2
 · cases x.kind == 3
   · cases x.kind == 4
     · cases x.kind == 5
       · cases x.kind == 11
         · exact compS_shifts hw hl t s x
         · simp only [cond_true, cond_false]; rw [putS_sh, oneS_shifts hn]
       · simp only [cond_true, cond_false]; rw [putS_sh, oneS_shifts hn]
     · simp only [cond_true, cond_false]; rw [joinS_shifts hn]
   · simp only [cond_true, cond_false]; rw [joinS_shifts hn]
 · simp only [cond_true]; rw [joinS_shifts hn]
theorem nodeS_shifts : Shifts (nodeS wd ls nd) := fun t s x => by
 simp only [nodeS]
 cases x.kind == 1
 · simp only [cond_false]; rw [bodyS_shifts hw hl hn, redirsS_shifts hw]
 · exact simpleS_shifts hw t s x
end
theorem levS_shifts : ∀ d, Adds (levS d).1 ∧ Shifts (levS d).2.1 ∧ Shifts (levS d).2.2
 | 0 => ⟨fun s _ => by simp [levS, putS], fun _ _ _ => rfl, nodeS_shifts (fun s _ => by simp [putS]) (fun _ _ _ => rfl) fun _ _ _ => rfl⟩
 | d + 1 => by
   obtain ⟨h1, h2, h3⟩ := levS_shifts d
   have hw : Adds (levS (d + 1)).1 := fold_adds (partS_adds h1 h2)
   have hl : Shifts (levS (d + 1)).2.1 := fold_shifts (f := fun s x => lineS ((levS d).2.2 s x)) fun t s x => by show lineS ((levS d).2.2 (sh t s) x) = sh t (lineS ((levS d).2.2 s x)); rw [h3, lineS_sh]
   exact ⟨hw, hl, nodeS_shifts hw hl h3⟩
/-- A word, written. -/
def txtS (d : Nat) (l : List Pt) : List UInt8 := ((levS d).1 ([], []) l).1
theorem levS_word (d : Nat) (s : St) (l : List Pt) : (levS d).1 s l = putS s (txtS d l) := (levS_shifts d).1 s l
theorem word_put (d : Nat) : (levS d).1 = fun s l => putS s (txtS d l) := funext fun s => funext fun l => levS_word d s l
/-- A part, written. -/
def ptxS (d : Nat) (p : Pt) : List UInt8 := (partS (levS d).1 (levS d).2.1 ([], []) p).1
theorem txtS_nil (d : Nat) : txtS d [] = [] := by cases d <;> rfl
theorem part_put (d : Nat) (s : St) (p : Pt) : partS (levS d).1 (levS d).2.1 s p = putS s (ptxS d p) := partS_adds (levS_shifts d).1 (levS_shifts d).2.1 s p
theorem txt_fold (d : Nat) : ∀ (l : List Pt) (s : St), l.foldl (partS (levS d).1 (levS d).2.1) s = putS s (l.flatMap (ptxS d))
 | [], s => by simp [putS]
 | p :: l, s => by rw [List.foldl_cons, txt_fold d l, part_put, putS_put, List.flatMap_cons]
theorem txtS_succ (d : Nat) (l : List Pt) : txtS (d + 1) l = l.flatMap (ptxS d) := by
 show (l.foldl (partS (levS d).1 (levS d).2.1) ([], [])).1 = _
 rw [txt_fold]; simp [putS]
theorem core_of (d : Nat) (s : St) (p : Pt) : coreS (levS d).1 (levS d).2.1 s p = putS s (coreS (levS d).1 (levS d).2.1 ([], []) p).1 := coreS_adds (levS_shifts d).1 (levS_shifts d).2.1 s p
/-- Of what a part's text is made, case by case. -/
theorem ptxS_eq (d : Nat) (p : Pt) : ptxS d p =
 bif p.kind == 1 then (bif p.quoted then quoL (L p.text) else L p.text) else
  (bif p.quoted then [34] else []) ++
   (bif p.kind == 2 then (bif (L p.op).isEmpty then [36, 123] ++ L p.text ++ [125] else bif L p.op == [108, 101, 110] then [36, 123, 35] ++ L p.text ++ [125] else [36, 123] ++ L p.text ++ L p.op ++ txtS d p.word ++ [125]) else
    bif p.kind == 3 then [36, 40, 10] ++ showL d p.body ++ [41] else [36, 40, 40] ++ L p.text ++ [41, 41]) ++ (bif p.quoted then [34] else []) := by
 have hc : (coreS (levS d).1 (levS d).2.1 ([], []) p).1 = (bif p.kind == 2 then (bif (L p.op).isEmpty then [36, 123] ++ L p.text ++ [125] else bif L p.op == [108, 101, 110] then [36, 123, 35] ++ L p.text ++ [125] else [36, 123] ++ L p.text ++ L p.op ++ txtS d p.word ++ [125]) else
         bif p.kind == 3 then [36, 40, 10] ++ showL d p.body ++ [41] else [36, 40, 40] ++ L p.text ++ [41, 41]) := by
  rw [coreS]
  cases p.kind == 2
  · cases p.kind == 3
    · simp [putS]
    · simp only [cond_true, cond_false]
      rw [show (([], []) : St).1 ++ [36, 40, 10] = [36, 40, 10] from rfl, (levS_shifts d).2.1.zero]
      simp [sh, showL]
  · simp only [cond_true]
    rw [paramS]
    cases (L p.op).isEmpty
    · cases L p.op == [108, 101, 110]
      · simp only [cond_false]; rw [levS_word]; simp [putS]
      · simp [putS]
    · simp [putS]
 rw [ptxS, partS]
 cases p.kind == 1
 · simp only [cond_false]
   cases p.quoted
   · simp only [cond_false]; rw [hc]; simp
   · simp only [cond_true]; rw [core_of, hc]; simp [putS]
 · simp only [cond_true]
   cases p.quoted <;> simp [putS]
end Go.Proofs.YtnackmnoldkihaaGreatDoor
namespace Go.Proofs.YtnackmnoldkihaaGreatDoor
open Go.RowKit

section
variable {P : Program} {md : Region.Mode} {ops : Array Oper} {Q : Exit → Act → World → Prop} {S : World → Prop} {oi : Oper} {fuel : Nat} {listed : Array Bool} {a : Act} {w : World}
theorem tkH (i : Nat) (v : Value) (hi : ops[i]? = some oi) (hk : (Region.noSelect ops && (Region.free md ops listed i && ((Region.ready md ops listed).contains i && Region.wanted oi (yielded ops a.tmps)))) = true) (hS : S w) (hQ : ∀ c a w, Q (.panic c) (a.put oi.dst v) w → Q (.panic c) a w) (hy : ∀ w, S w → (execOp a.eval oi).run P w = .ok (.value v) w)
 (h : wpAnyH P md ops Q S fuel (listed.setIfInBounds i true) (a.put oi.dst v) w) : wpAnyH P md ops Q S (fuel + 1) listed a w := by
 simp only [Bool.and_eq_true] at hk
 exact wpAnyH_take hi hk.1 hk.2.1 hk.2.2.1 hQ (Or.inl ⟨hk.2.2.2, hy⟩) hS h
theorem tk (i : Nat) {v : Value} (h : wpAnyH P md ops Q S fuel (listed.setIfInBounds i true) (a.put oi.dst v) w) (hi : ops[i]? = some oi := by rfl) (hk : (Region.noSelect ops && (Region.free md ops listed i && ((Region.ready md ops listed).contains i && Region.wanted oi (yielded ops a.tmps)))) = true := by kernel_rfl) (hS : S w := by assumption) (hQ : ∀ c a w, Q (.panic c) (a.put oi.dst v) w → Q (.panic c) a w := by exact fun _ _ _ h => h) (hy : ∀ w, S w → (execOp a.eval oi).run P w = .ok (.value v) w := by (intro w g; (try dsimp only at g); go_simp; try with_reducible rfl)) : wpAnyH P md ops Q S (fuel + 1) listed a w :=
 tkH i v hi hk hS hQ hy h
theorem skH (i : Nat) (hi : ops[i]? = some oi) (hk : (Region.noSelect ops && (Region.free md ops listed i && ((Region.ready md ops listed).contains i && !Region.wanted oi (yielded ops a.tmps)))) = true) (hS : S w) (hQ : ∀ c a w, Q (.panic c) (a.put oi.dst undef) w → Q (.panic c) a w)
 (h : wpAnyH P md ops Q S fuel (listed.setIfInBounds i true) (a.put oi.dst undef) w) : wpAnyH P md ops Q S (fuel + 1) listed a w := by
 simp only [Bool.and_eq_true, Bool.not_eq_true'] at hk
 exact wpAnyH_take hi hk.1 hk.2.1 hk.2.2.1 hQ (Or.inr ⟨hk.2.2.2, rfl⟩) hS h
end
end Go.Proofs.YtnackmnoldkihaaGreatDoor
