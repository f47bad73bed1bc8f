/-
  The document's side: a simple command; a command that joins others.
-/
import Derived.Test.YtnackmnoldkihaaGreatDoorW28
set_option linter.unusedVariables false
set_option linter.unusedSimpArgs false
namespace Go.Proofs.YtnackmnoldkihaaGreatDoor
open Go.RowKit

theorem WdsIn.first14 {w : World} {B d : Nat} {l : List (List Pt)} {v : Value} (h : WdsIn w B d l v) (h0 : 0 < l.length) : ∃ y b o a c, (∃ r, l = y :: r) ∧ (∀ w' : World, (Instr.indexAt 59 v (.int .i64 0)).run Tryz.prog w' = .ok (.pointer (some ⟨b, o, none⟩)) w') ∧ b < B ∧
 w.cell? ⟨b, o, none⟩ = some (.slice a y.length c) ∧ PtsIn w B d y (.slice a y.length c) := by
 cases l with
 | nil => simp at h0
 | cons y r =>
   obtain ⟨b, o, c, hi, hb, hc, ⟨v, rfl, hp⟩, _⟩ := h.at 59 41 Tryz.underlying59 (by kernel_rfl) (k := 0) (x := y) rfl
   obtain ⟨a, cap, rfl, _⟩ := hp.shape
   exact ⟨y, b, o, a, cap, ⟨r, rfl⟩, fun w' => hi w', hb, hc 0 _ rfl, hp⟩
theorem sum3_pos {α β γ : Type} {l : List α} {m : List β} {k : List γ} {n1 n2 n3 : Nat} (h1 : l.length = n1) (h2 : m.length = n2) (h3 : k.length = n3) : decide ((0 : Int) < (n1 : Int) + (n2 : Int) + (n3 : Int)) = !(l.isEmpty && (m.isEmpty && k.isEmpty)) := by
 subst h1 h2 h3
 cases l <;> cases m <;> cases k <;> simp <;> omega
theorem sum4_pos {α β γ δ : Type} {l : List α} {m : List β} {k : List γ} {j : List δ} {n1 n2 n3 n4 : Nat} (h1 : l.length = n1) (h2 : m.length = n2) (h3 : k.length = n3) (h4 : j.length = n4) : decide ((0 : Int) < (n1 : Int) + (n2 : Int) + (n3 : Int) + (n4 : Int)) = !((l.isEmpty && (m.isEmpty && k.isEmpty)) && j.isEmpty) := by
 subst h1 h2 h3 h4
 cases l <;> cases m <;> cases k <;> cases j <;> simp <;> omega
theorem sum2_zero {α β : Type} {l : List α} {m : List β} {n1 n2 : Nat} (h1 : l.length = n1) (h2 : m.length = n2) : ((n1 : Int) + (n2 : Int) == 0) = (l.isEmpty && m.isEmpty) := by
 subst h1 h2
 cases l <;> cases m <;> simp <;> omega


set_option maxHeartbeats 4000000 in
set_option maxRecDepth 100000 in
theorem rsimple_any (wd : List Pt → Bool) (level deep : Int) (hl0 : 0 ≤ level) (hl1 : level ≤ 2000) (hwd : RWordAt (level + 1) deep wd) (x : Nd) (hne : ∀ y ∈ x.words, y ≠ []) (w : World) (d : Nat) (c : List Value) (hp : NdC w w.heap.size d x c) :
 Calls Tryz.prog 57 #[.agg c.toArray, .int .i64 level, .int .i64 deep] w fun e w' => e = .returned (.bool (simpleB wd x)) ∧ Below w.heap.size w w' := by
 obtain ⟨a1, c1, a2, c2, a3, c3, a4, c4, a5, c5, rfl, hxz, ⟨hn1, hn2, hn3, hn4, hn5⟩, hA, hW, hRd, hLs, hAr⟩ := hp.open
 obtain ⟨n1, hl1⟩ : ∃ n, x.assigns.length = n := ⟨_, rfl⟩
 obtain ⟨n2, hl2⟩ : ∃ n, x.words.length = n := ⟨_, rfl⟩
 obtain ⟨n3, hl3⟩ : ∃ n, x.redirs.length = n := ⟨_, rfl⟩
 obtain ⟨n4, hl4⟩ : ∃ n, x.lists.length = n := ⟨_, rfl⟩
 obtain ⟨n5, hl5⟩ : ∃ n, x.arms.length = n := ⟨_, rfl⟩
 rw [hl1] at hn1 hA ⊢
 rw [hl2] at hn2 hW ⊢
 rw [hl3] at hn3 hRd ⊢
 rw [hl4] at hn4 hLs ⊢
 rw [hl5] at hn5 hAr ⊢
 have HA := Lib.hid hA
 have HW := Lib.hid hW
 have HRD := Lib.hid hRd
 have HLS := Lib.hid hLs
 have HAR := Lib.hid hAr
 have N1 := Lib.hid hl1
 have N2 := Lib.hid hl2
 have N3 := Lib.hid hl3
 have N4 := Lib.hid hl4
 have N5 := Lib.hid hl5
 have BK := Lib.hid (Bk.start w 64 #[.int .i64 x.kind, .string x.name, .slice a1 n1 c1, .slice a2 n2 c2, .slice a3 n3 c3, .slice a4 n4 c4, .slice a5 n5 c5])
 have HWD := Lib.hid hwd
 have HNE := Lib.hid hne
 have E4 := Lib.hid (nil_beq hl4)
 have E5 := Lib.hid (nil_beq hl5)
 have ES := Lib.hid (sum3_pos hl1 hl2 hl3)
 obtain ⟨fa, hfa⟩ : ∃ f, (fun a : As => nameL (L a.name) && wd a.word) = f := ⟨_, rfl⟩
 obtain ⟨r, hr⟩ : ∃ r, simpleB wd x = r := ⟨_, rfl⟩
 rw [hr]
 rw [simpleB, hfa] at hr
 have HR := Lib.hid hr
 have HFA := Lib.hid hfa
 clear hl1 hl2 hl3 hl4 hl5 hA hW hRd hLs hAr hp hwd hr hfa hne
 go_enter Tryz.func57, Tryz.ntmps57
 go_wp2_with fail
 go_loopw [7] (fun i W => ∃ k : Nat, k ≤ n1 ∧ i = .int .i64 k ∧ (x.assigns.take k).all fa = true ∧ Bk w W 64 #[.int .i64 x.kind, .string x.name, .slice a1 n1 c1, .slice a2 n2 c2, .slice a3 n3 c3, .slice a4 n4 c4, .slice a5 n5 c5]) (fun i _ => n1 - (intOf i).toNat)
 case atStart => exact ⟨0, Nat.zero_le _, rfl, by simp, BK.out⟩
 case round =>
  obtain ⟨k, hk, rfl, hal, hbk⟩ := hrel
  have HAL := Lib.hid hal
  have BK1 := Lib.hid hbk
  clear hal hbk
  have K1BK1 := Lib.hid BK1.out.b
  have hBBK1 := BK1.out.hb
  obtain ⟨p0, p1, p2, p3, p4, p5, p6, pl⟩ := K1BK1.out.box7
  by_cases hlt : k < n1
  · obtain ⟨y, hy⟩ : ∃ y, x.assigns[k]? = .some y := ⟨_, List.getElem?_eq_getElem (by rw [N1.out]; exact hlt)⟩
    obtain ⟨b, o, c, hi, hbB, hce, hC, _⟩ := HA.out.at 58 98 Tryz.underlying58 (by kernel_rfl) hy
    have HY := Lib.hid hy
    obtain ⟨a6, c6, rfl, hyz, hyl, hyw⟩ := hC.open
    have CW := Lib.hid (HWD.out.reads hyw false)
    have CN : Hid (∀ W, Below w.heap.size w W → Calls Tryz.prog 22 #[.string y.name] W fun e w' => e = .returned (.bool (nameL (L y.name))) ∧ Below W.heap.size W w') := Lib.hid fun W _ => (rname_any y.name W (by unfold maxLen; omega)).mono fun e w' h => ⟨h.1, by first | exact h.2 | (rw [h.2]; exact Below.refl _ _) | (rw [← h.2]; exact Below.refl _ _)⟩
    have HF : Hid (fa y = (nameL (L y.name) && wd y.word)) := Lib.hid (by rw [← HFA.out])
    have HCE := Lib.hid hce
    have e0 := (hBBK1.cell hbB).trans (hce 0 _ rfl)
    have e1 := (hBBK1.cell hbB).trans (hce 1 _ rfl)
    have hbB' := Nat.lt_of_lt_of_le hbB hBBK1.size
    rw [Nat.add_zero] at e0
    clear hy hce hC hyw
    obtain ⟨nm, hnm⟩ : ∃ r, nameL (L y.name) = r := ⟨_, rfl⟩
    obtain ⟨wv, hwr⟩ : ∃ r, (wd y.word && (!false || !y.word.isEmpty)) = r := ⟨_, rfl⟩
    have hwr2 : wd y.word = wv := by rw [← hwr]; simp
    rw [hnm] at CN HF
    rw [hwr] at CW
    rw [hwr2] at HF
    clear hnm hwr hwr2
    go_wp2_with fail
    refine (CN.out _ bg).mono ?_
    rintro e w1 ⟨rfl, hb0⟩
    have hBw1 : Below w.heap.size w w1 := since hb0 bg
    have BKw1 := Lib.hid (Bk.later BK1.out (since hb0 bg))
    clear hb0
    cases nm with
    | false =>
      have HE : Hid (r = false) := Lib.hid (by rw [← HR.out, all_no HY.out (show fa y = false by rw [HF.out]; rfl)]; rfl)
      go_wp2_with fail
      go_ret
      exact ⟨ret_bool HE.out.symm, bg⟩
    | true =>
      clear p0 p1 p2 p3 p4 p5 p6 pl
      clear e0 e1
      have K1BKw1 := Lib.hid BKw1.out.b
      have hBBKw1 := BKw1.out.hb
      obtain ⟨p0, p1, p2, p3, p4, p5, p6, pl⟩ := K1BKw1.out.box7
      have e1 := (hBBKw1.cell hbB).trans (HCE.out 1 _ rfl)
      have hbB2 := Nat.lt_of_lt_of_le hbB hBBKw1.size
      go_wp2_with fail
      refine (CW.out _ bg).mono ?_
      rintro e w2 ⟨rfl, hb0⟩
      have hBw2 : Below w.heap.size w w2 := since hb0 bg
      have BKw2 := Lib.hid (Bk.later BKw1.out (since hb0 bg))
      clear hb0
      cases wv with
      | false =>
        have HE : Hid (r = false) := Lib.hid (by rw [← HR.out, all_no HY.out (show fa y = false by rw [HF.out]; rfl)]; rfl)
        go_wp2_with fail
        go_ret
        exact ⟨ret_bool HE.out.symm, bg⟩
      | true =>
        have HF2 : Hid (fa y = true) := Lib.hid (by rw [HF.out]; rfl)
        go_wp2_with fail
        go_roundw
        case rel => exact ⟨k + 1, by omega, by go_num, all_to HAL.out HY.out HF2.out, BKw2.out⟩
        case measure => simp [intOf]; omega
  · have HALL : Hid (x.assigns.all fa = true) := Lib.hid (all_end HAL.out (by rw [N1.out]; omega))
    have HR2 : Hid (r = ((match x.words with | [] => true | y :: _ => firstB y) && ((L x.name).isEmpty && ((x.lists.isEmpty && x.arms.isEmpty) && !(x.assigns.isEmpty && (x.words.isEmpty && x.redirs.isEmpty)))))) := Lib.hid (by rw [← HR.out, HALL.out]; rfl)
    clear HALL HAL
    obtain ⟨sm, hsm⟩ : ∃ b, (!(x.assigns.isEmpty && (x.words.isEmpty && x.redirs.isEmpty))) = b := ⟨_, rfl⟩
    rw [hsm] at HR2 ES
    clear hsm
    obtain ⟨ne, hne⟩ : ∃ b, (L x.name).isEmpty = b := ⟨_, rfl⟩
    have ENE := Lib.hid ((isEmpty_L x.name).trans hne)
    obtain ⟨le, hle⟩ : ∃ b, x.lists.isEmpty = b := ⟨_, rfl⟩
    obtain ⟨ae, hae⟩ : ∃ b, x.arms.isEmpty = b := ⟨_, rfl⟩
    rw [hne, hle, hae] at HR2
    rw [hle] at E4
    rw [hae] at E5
    clear hne hle hae
    have f0 := ES.out
    have f1 := ENE.out
    have f2 := E4.out
    have f3 := E5.out
    rcases Nat.eq_zero_or_pos n2 with h0 | h0
    · subst h0
      have hwn : x.words = [] := List.length_eq_zero_iff.1 N2.out
      have HR3 : Hid (r = (ne && ((le && ae) && sm))) := Lib.hid (by rw [HR2.out, hwn]; rfl)
      have f4 : decide ((0 : Int) < (n1 : Int) + (n3 : Int)) = sm := by rw [← ES.out]; simp
      clear hwn f0 ES
      cases ne
      all_goals cases le
      all_goals cases ae
      all_goals cases sm
      all_goals
       go_wp2_with fail
       go_ret
       exact ⟨ret_bool (by rw [HR3.out]; rfl), bg⟩
    · obtain ⟨y, b, o, ay, cy, ⟨yr, hy⟩, hi, hbB, g0, hyp⟩ := WdsIn.first14 HW.out (by rw [N2.out]; exact h0)
      have CF : Hid (∀ W, Below w.heap.size w W → Calls Tryz.prog 73 #[.slice ay y.length cy] W fun e w' => e = .returned (.bool (firstB y)) ∧ Below W.heap.size W w') := Lib.hid fun W hW => rfirst_any y _ W d (hyp.later hW) (HNE.out y (by rw [hy]; simp))
      have hlt2 : decide ((0 : Int) < (n2 : Int)) = true := by simp; omega
      have e0 := (hBBK1.cell hbB).trans g0
      have hbB' := Nat.lt_of_lt_of_le hbB hBBK1.size
      obtain ⟨fb, hfb⟩ : ∃ r, firstB y = r := ⟨_, rfl⟩
      have HR3 : Hid (r = (fb && (ne && ((le && ae) && sm)))) := Lib.hid (by rw [HR2.out, hy, ← hfb])
      rw [hfb] at CF
      clear hy hyp g0 hfb
      go_wp2_with fail
      refine (CF.out _ bg).mono ?_
      rintro e w5 ⟨rfl, hb0⟩
      have hBw5 : Below w.heap.size w w5 := since hb0 bg
      have BKw5 := Lib.hid (Bk.later BK1.out (since hb0 bg))
      clear hb0
      clear p0 p1 p2 p3 p4 p5 p6 pl
      have K1BKw5 := Lib.hid BKw5.out.b
      have hBBKw5 := BKw5.out.hb
      obtain ⟨p0, p1, p2, p3, p4, p5, p6, pl⟩ := K1BKw5.out.box7
      cases fb with
      | false =>
        go_wp2_with fail
        go_ret
        exact ⟨ret_bool (by rw [HR3.out]; rfl), bg⟩
      | true =>
        cases ne
        all_goals cases le
        all_goals cases ae
        all_goals cases sm
        all_goals
         go_wp2_with fail
         go_ret
         exact ⟨ret_bool (by rw [HR3.out]; rfl), bg⟩

/-- What a command that joins others may not join. -/
def rjBad (k : Int) (i : Nat) (z : Int) : Bool := ((k == 2 && decide (2 ≤ z)) && decide (z ≤ 5)) || (((k == 5 && decide (3 ≤ z)) && decide (z ≤ 5)) || (((k == 3 || k == 4) && decide (i = 1)) && (z == 3 || z == 4)))
def rjoinedB (x : Nd) : Bool :=
 (bareN x && x.redirs.isEmpty) && (aloneL x && (soleB (fun i z => !rjBad x.kind i z) 0 x.lists && (bif x.kind == 2 then decide (2 ≤ x.lists.length) else bif x.kind == 5 then decide (x.lists.length = 1) else decide (x.lists.length = 2))))

set_option maxHeartbeats 4000000 in
set_option maxRecDepth 100000 in
theorem rjoined_any (x : Nd) (w : World) (d : Nat) (c : List Value) (hp : NdC w w.heap.size d x c) :
 Calls Tryz.prog 58 #[.agg c.toArray] w fun e w' => e = .returned (.bool (rjoinedB x)) ∧ Below w.heap.size w w' := by
 have CA : Hid (∀ W, Below w.heap.size w W → Calls Tryz.prog 74 #[.agg c.toArray] W fun e w' => e = .returned (.bool (aloneL x)) ∧ Below W.heap.size W w') := Lib.hid fun W hW => ralone_any x W d c (hp.later hW)
 obtain ⟨a1, c1, a2, c2, a3, c3, a4, c4, a5, c5, rfl, hxz, ⟨hn1, hn2, hn3, hn4, hn5⟩, hA, hW, hRd, hLs, hAr⟩ := hp.open
 obtain ⟨n1, hl1⟩ : ∃ n, x.assigns.length = n := ⟨_, rfl⟩
 obtain ⟨n2, hl2⟩ : ∃ n, x.words.length = n := ⟨_, rfl⟩
 obtain ⟨n3, hl3⟩ : ∃ n, x.redirs.length = n := ⟨_, rfl⟩
 obtain ⟨n4, hl4⟩ : ∃ n, x.lists.length = n := ⟨_, rfl⟩
 obtain ⟨n5, hl5⟩ : ∃ n, x.arms.length = n := ⟨_, rfl⟩
 rw [hl1] at hn1 CA ⊢
 rw [hl2] at hn2 CA ⊢
 rw [hl3] at hn3 CA ⊢
 rw [hl4] at hn4 hLs CA ⊢
 rw [hl5] at hn5 CA ⊢
 have HLS := Lib.hid hLs
 have N4 := Lib.hid hl4
 have ES : Hid (decide ((0 : Int) < (n1 : Int) + (n2 : Int) + (n5 : Int) + (n3 : Int)) = !((x.assigns.isEmpty && (x.words.isEmpty && x.arms.isEmpty)) && x.redirs.isEmpty)) := Lib.hid (sum4_pos hl1 hl2 hl5 hl3)
 have BK := Lib.hid (Bk.start w 64 #[.int .i64 x.kind, .string x.name, .slice a1 n1 c1, .slice a2 n2 c2, .slice a3 n3 c3, .slice a4 n4 c4, .slice a5 n5 c5])
 obtain ⟨r, hr⟩ : ∃ r, rjoinedB x = r := ⟨_, rfl⟩
 rw [hr]
 rw [rjoinedB, bareN] at hr
 obtain ⟨xk, hxk⟩ : ∃ v, x.kind = v := ⟨_, rfl⟩
 rw [hxk] at hr CA BK ⊢
 obtain ⟨ne, hne⟩ : ∃ b, (L x.name).isEmpty = b := ⟨_, rfl⟩
 have ENE := (isEmpty_L x.name).trans hne
 obtain ⟨sm, hsm⟩ : ∃ b, (!((x.assigns.isEmpty && (x.words.isEmpty && x.arms.isEmpty)) && x.redirs.isEmpty)) = b := ⟨_, rfl⟩
 rw [hsm] at ES
 obtain ⟨al, hal⟩ : ∃ b, aloneL x = b := ⟨_, rfl⟩
 have HAL := Lib.hid hal
 rw [hal] at hr CA
 have HR : Hid (r = ((ne && !sm) && (al && (soleB (fun i z => !rjBad xk i z) 0 x.lists && (bif xk == 2 then decide (2 ≤ n4) else bif xk == 5 then decide (n4 = 1) else decide (n4 = 2)))))) := Lib.hid (by
  rw [← hr, hne, ← hsm, hl4]
  cases ne <;> cases x.assigns.isEmpty <;> cases x.words.isEmpty <;> cases x.arms.isEmpty <;> cases x.redirs.isEmpty <;> rfl)
 have f0 := ES.out
 clear hp hr hA hW hRd hLs hAr hl1 hl2 hl3 hl4 hl5 hxk hne hsm hal ES
 cases ne with
 | false =>
   have f1 : (x.name.toList.isEmpty) = false := ENE
   go_enter Tryz.func58, Tryz.ntmps58
   go_wp2_with fail
   go_ret
   exact ⟨ret_bool (by rw [HR.out]; rfl), bg⟩
 | true =>
   have f1 : (x.name.toList.isEmpty) = true := ENE
   cases sm with
   | true =>
     go_enter Tryz.func58, Tryz.ntmps58
     go_wp2_with fail
     go_ret
     exact ⟨ret_bool (by rw [HR.out]; rfl), bg⟩
   | false =>
     go_enter Tryz.func58, Tryz.ntmps58
     go_wp2_with fail
     refine (CA.out _ bg).mono ?_
     rintro e w1 ⟨rfl, hb0⟩
     have hBw1 : Below w.heap.size w w1 := since hb0 bg
     have BKw1 := Lib.hid (Bk.later BK.out (since hb0 bg))
     clear hb0
     cases al with
     | false =>
       go_wp2_with fail
       go_ret
       exact ⟨ret_bool (by rw [HR.out]; rfl), bg⟩
     | true =>
       have HR1 : Hid (r = (soleB (fun i z => !rjBad xk i z) 0 x.lists && (bif xk == 2 then decide (2 ≤ n4) else bif xk == 5 then decide (n4 = 1) else decide (n4 = 2)))) := Lib.hid (by rw [HR.out]; rfl)
       clear HR
       have K1BKw1 := Lib.hid BKw1.out.b
       have hBBKw1 := BKw1.out.hb
       obtain ⟨p0, p1, p2, p3, p4, p5, p6, pl⟩ := K1BKw1.out.box7
       go_wp2_with fail
       go_loopw [3] (fun i W => ∃ k : Nat, k ≤ n4 ∧ i = .int .i64 k ∧ soleTo (fun i z => !rjBad xk i z) x.lists k ∧ Bk w W 64 #[.int .i64 xk, .string x.name, .slice a1 n1 c1, .slice a2 n2 c2, .slice a3 n3 c3, .slice a4 n4 c4, .slice a5 n5 c5]) (fun i _ => n4 - (intOf i).toNat)
       case atStart => exact ⟨0, Nat.zero_le _, rfl, rfl, BKw1.out⟩
       case round =>
        clear p0 p1 p2 p3 p4 p5 p6 pl
        obtain ⟨k, hk, rfl, hto, hbk⟩ := hrel
        have HTO := Lib.hid hto
        have BK2 := Lib.hid hbk
        clear hto hbk
        have K1BK2 := Lib.hid BK2.out.b
        have hBBK2 := BK2.out.hb
        obtain ⟨p0, p1, p2, p3, p4, p5, p6, pl⟩ := K1BK2.out.box7
        by_cases hlt : k < n4
        · obtain ⟨y, hy⟩ : ∃ y, x.lists[k]? = .some y := ⟨_, List.getElem?_eq_getElem (by rw [N4.out]; exact hlt)⟩
          obtain ⟨b, o, c, hi, hbB, hce, ⟨yv, rfl, hyp⟩, _⟩ := HLS.out.at 61 25 Tryz.underlying61 (by kernel_rfl) hy
          have HY := Lib.hid hy
          have hy1 : y.length = 1 := by
           have := HAL.out
           rw [aloneL, List.all_eq_true] at this
           simpa using this y (List.mem_of_getElem? hy)
          obtain ⟨z, hz⟩ : ∃ z, y = [z] := List.length_eq_one_iff.1 hy1
          obtain ⟨d2, hyp2⟩ := hyp.up
          obtain ⟨a6, c6, rfl, _⟩ := hyp.shape
          rw [hy1] at hce hyp2
          obtain ⟨b2, o2, cz, hi2, hbB2, hce2, hCz, _⟩ := hyp2.at 25 64 Tryz.underlying25 (by kernel_rfl) (k := 0) (x := z) (by rw [hz]; rfl)
          have hi3 : ∀ w' : World, (Instr.indexAt 25 (.slice a6 1 c6) (.int .i64 0)).run Tryz.prog w' = .ok (.pointer (some ⟨b2, o2, none⟩)) w' := hi2
          obtain ⟨_, _, _, _, _, _, _, _, _, _, rfl, _⟩ := hCz.open
          have e0 := (hBBK2.cell hbB).trans (hce 0 _ rfl)
          have g0 := (hBBK2.cell hbB2).trans (hce2 0 _ rfl)
          have hbB' := Nat.lt_of_lt_of_le hbB hBBK2.size
          have hbB2' := Nat.lt_of_lt_of_le hbB2 hBBK2.size
          rw [Nat.add_zero] at e0 g0
          have HSO : Hid (soleOne (fun i z => !rjBad xk i z) k y = !rjBad xk k z.kind) := Lib.hid (by rw [hz]; rfl)
          clear hy hce hyp hy1 hz hyp2 hi2 hce2 hCz
          obtain ⟨zk, hzk⟩ : ∃ v, z.kind = v := ⟨_, rfl⟩
          rw [hzk] at g0 HSO
          clear hzk
          have HBD : Hid (rjBad xk k zk = (((xk == 2 && decide (2 ≤ zk)) && decide (zk ≤ 5)) || (((xk == 5 && decide (3 ≤ zk)) && decide (zk ≤ 5)) || (((xk == 3 || xk == 4) && decide (k = 1)) && (zk == 3 || zk == 4))))) := Lib.hid rfl
          by_cases h2 : xk = 2
          · have q2 : (xk == 2) = true := by simp [h2]
            have q5 : (xk == 5) = false := by simp [h2]
            have q3 : (xk == 3) = false := by simp [h2]
            have q4 : (xk == 4) = false := by simp [h2]
            cases p2 : decide (2 ≤ zk)
            all_goals cases p5 : decide (zk ≤ 5)
            all_goals
             first
              | (have HBT : Hid (rjBad xk k zk = true) := Lib.hid (by rw [HBD.out]; simp [q2, q5, q3, q4, p2, p5]; done)
                 have HNO := Lib.hid (soleTo_no HTO.out HY.out (by rw [HSO.out, HBT.out]; rfl))
                 clear h2
                 go_wp2_with fail
                 go_ret
                 exact ⟨ret_bool (by rw [HR1.out, HNO.out]; rfl), BK2.out.hb⟩)
              | (have HBT : Hid (rjBad xk k zk = false) := Lib.hid (by rw [HBD.out]; simp [q2, q5, q3, q4, p2, p5]; done)
                 have HYES := Lib.hid (soleTo_step HTO.out HY.out (by rw [HSO.out, HBT.out]; rfl))
                 clear h2
                 go_wp2_with fail
                 go_roundw
                 case rel => exact ⟨k + 1, by omega, by go_num, HYES.out, BK2.out⟩
                 case measure => simp [intOf]; omega)
          · have q2 : (xk == 2) = false := by simp [h2]
            by_cases h5 : xk = 5
            · have q5 : (xk == 5) = true := by simp [h5]
              have q3 : (xk == 3) = false := by simp [h5]
              have q4 : (xk == 4) = false := by simp [h5]
              cases p3 : decide (3 ≤ zk)
              all_goals cases p5 : decide (zk ≤ 5)
              all_goals
               first
                | (have HBT : Hid (rjBad xk k zk = true) := Lib.hid (by rw [HBD.out]; simp [q2, q5, q3, q4, p3, p5]; done)
                   have HNO := Lib.hid (soleTo_no HTO.out HY.out (by rw [HSO.out, HBT.out]; rfl))
                   clear h2 h5
                   go_wp2_with fail
                   go_ret
                   exact ⟨ret_bool (by rw [HR1.out, HNO.out]; rfl), BK2.out.hb⟩)
                | (have HBT : Hid (rjBad xk k zk = false) := Lib.hid (by rw [HBD.out]; simp [q2, q5, q3, q4, p3, p5]; done)
                   have HYES := Lib.hid (soleTo_step HTO.out HY.out (by rw [HSO.out, HBT.out]; rfl))
                   clear h2 h5
                   go_wp2_with fail
                   go_roundw
                   case rel => exact ⟨k + 1, by omega, by go_num, HYES.out, BK2.out⟩
                   case measure => simp [intOf]; omega)
            · have q5 : (xk == 5) = false := by simp [h5]
              by_cases hk1 : k = 1
              · have i1 : ((k : Int) == 1) = true := by simp [hk1]
                cases q3 : (xk == 3)
                all_goals cases q4 : (xk == 4)
                all_goals cases z3 : (zk == 3)
                all_goals cases z4 : (zk == 4)
                all_goals
                 first
                  | (have HBT : Hid (rjBad xk k zk = true) := Lib.hid (by rw [HBD.out]; simp [q2, q5, q3, q4, z3, z4, hk1]; done)
                     have HNO := Lib.hid (soleTo_no HTO.out HY.out (by rw [HSO.out, HBT.out]; rfl))
                     clear h2 h5 hk1
                     go_wp2_with fail
                     go_ret
                     exact ⟨ret_bool (by rw [HR1.out, HNO.out]; rfl), BK2.out.hb⟩)
                  | (have HBT : Hid (rjBad xk k zk = false) := Lib.hid (by rw [HBD.out]; simp [q2, q5, q3, q4, z3, z4, hk1]; done)
                     have HYES := Lib.hid (soleTo_step HTO.out HY.out (by rw [HSO.out, HBT.out]; rfl))
                     clear h2 h5 hk1
                     go_wp2_with fail
                     go_roundw
                     case rel => exact ⟨k + 1, by omega, by go_num, HYES.out, BK2.out⟩
                     case measure => simp [intOf]; omega)
              · have i1 : ((k : Int) == 1) = false := by simp; omega
                cases q3 : (xk == 3)
                all_goals cases q4 : (xk == 4)
                all_goals
                 first
                  | (have HBT : Hid (rjBad xk k zk = true) := Lib.hid (by rw [HBD.out]; simp [q2, q5, q3, q4, hk1]; done)
                     have HNO := Lib.hid (soleTo_no HTO.out HY.out (by rw [HSO.out, HBT.out]; rfl))
                     clear h2 h5 hk1
                     go_wp2_with fail
                     go_ret
                     exact ⟨ret_bool (by rw [HR1.out, HNO.out]; rfl), BK2.out.hb⟩)
                  | (have HBT : Hid (rjBad xk k zk = false) := Lib.hid (by rw [HBD.out]; simp [q2, q5, q3, q4, hk1]; done)
                     have HYES := Lib.hid (soleTo_step HTO.out HY.out (by rw [HSO.out, HBT.out]; rfl))
                     clear h2 h5 hk1
                     go_wp2_with fail
                     go_roundw
                     case rel => exact ⟨k + 1, by omega, by go_num, HYES.out, BK2.out⟩
                     case measure => simp [intOf]; omega)
        · have HS : Hid (soleB (fun i z => !rjBad xk i z) 0 x.lists = true) := Lib.hid (soleTo_end HTO.out (by rw [N4.out]; omega))
          have HR2 : Hid (r = (bif xk == 2 then decide (2 ≤ n4) else bif xk == 5 then decide (n4 = 1) else decide (n4 = 2))) := Lib.hid (by rw [HR1.out, HS.out, Bool.true_and])
          cases hk2 : (xk == 2) with
          | true =>
            have HR3 : Hid (r = decide (2 ≤ n4)) := Lib.hid (by rw [HR2.out, hk2]; rfl)
            go_wp2_with fail
            go_ret
            exact ⟨ret_bool (by rw [HR3.out]; simp; try omega), BK2.out.hb⟩
          | false =>
            cases hk5 : (xk == 5) with
            | true =>
              have HR3 : Hid (r = decide (n4 = 1)) := Lib.hid (by rw [HR2.out, hk2, hk5]; rfl)
              go_wp2_with fail
              go_ret
              exact ⟨ret_bool (by rw [HR3.out, Bool.eq_iff_iff]; simp; try omega), BK2.out.hb⟩
            | false =>
              have HR3 : Hid (r = decide (n4 = 2)) := Lib.hid (by rw [HR2.out, hk2, hk5]; rfl)
              go_wp2_with fail
              go_ret
              exact ⟨ret_bool (by rw [HR3.out, Bool.eq_iff_iff]; simp; try omega), BK2.out.hb⟩
end Go.Proofs.YtnackmnoldkihaaGreatDoor
