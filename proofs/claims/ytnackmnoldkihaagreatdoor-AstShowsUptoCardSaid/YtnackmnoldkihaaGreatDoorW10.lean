/-
  The walks of alone and joined.
-/
import Derived.Test.YtnackmnoldkihaaGreatDoorW8
import Derived.Test.YtnackmnoldkihaaGreatDoorW7
set_option linter.unusedVariables false
set_option linter.unusedSimpArgs false
/-
  The walks of first and simple.
-/
namespace Go.Proofs.YtnackmnoldkihaaGreatDoor
open Go.RowKit

set_option maxHeartbeats 1000000 in
set_option maxRecDepth 100000 in
theorem first_any (l : List Pt) (v : Value) (w : World) (d : Nat) (hv : Held w) (hl : PtsIn w w.heap.size d l v) :
 Calls Tryz.prog 90 #[v] w fun e w' => e = .returned (.bool (firstB l)) ∧ Below w.heap.size w w' := by
 obtain ⟨a, cap, rfl, hz⟩ := hl.shape
 obtain ⟨n, hn⟩ : ∃ n, l.length = n := ⟨_, rfl⟩
 unfold bigN at hz
 rw [hn] at hl hz ⊢
 obtain ⟨⟨cl, hcl⟩, hw0⟩ := hv
 rcases Nat.eq_zero_or_pos n with h0 | h0
 · subst h0
   have HR : Hid (firstB l = true) := Lib.hid (by rw [List.length_eq_zero_iff.1 hn]; rfl)
   clear hn hl
   go_enter Tryz.func90, Tryz.ntmps90
   go_wp2
   go_ret
   exact ⟨ret_bool HR.out.symm, bg⟩
 · obtain ⟨x, b, o, ⟨xr, hx⟩, hxt, hi, hbB, g0, g1, g2⟩ := hl.first (by rw [hn]; exact h0)
   have hr : firstB l = bif x.kind == 1 && !x.quoted then (!((Lib.cut (L x.text) [61]).2.2 && nameL (Lib.cut (L x.text) [61]).1) && !(xr.isEmpty && oneB reservedWs (L x.text))) else true := by rw [hx]; rfl
   obtain ⟨r, hr0⟩ : ∃ r, firstB l = r := ⟨_, rfl⟩
   rw [hr0] at hr ⊢
   have hxr : xr.length + 1 = n := by rw [← hn, hx]; rfl
   obtain ⟨xk, hxk⟩ : ∃ k, x.kind = k := ⟨_, rfl⟩
   obtain ⟨xq, hxq⟩ : ∃ k, x.quoted = k := ⟨_, rfl⟩
   obtain ⟨xt, hxt2⟩ : ∃ k, x.text = k := ⟨_, rfl⟩
   rw [hxk] at g0 hr
   rw [hxq] at g1 hr
   rw [hxt2] at g2 hr hxt
   have CC : Hid (∀ W, W.cell? ⟨0, 0, none⟩ = some (.int .i64 cl) → Calls Tryz.prog 112 #[.string xt, .string ⟨#[61]⟩] W fun e w' => e = .returned (.tuple #[.string (S (Lib.cut (L xt) [61]).1), .string (S (Lib.cut (L xt) [61]).2.1), .bool (Lib.cut (L xt) [61]).2.2]) ∧ ∃ n, w' = W.drewN n) := Lib.hid fun W hW => Tryz.strings_Cut xt ⟨#[61]⟩ cl W (by omega) hW
   have hcz : (Lib.cut (L xt) [61]).1.length ≤ 1048576 := by
    rw [Lib.cut]
    split
    · simp [List.length_take, L_size]; omega
    · simpa [L_size] using hxt
   obtain ⟨cu, hcu⟩ : ∃ c, Lib.cut (L xt) [61] = c := ⟨_, rfl⟩
   rw [hcu] at CC hr hcz
   obtain ⟨cu1, cu2, cu3⟩ := cu
   simp only [] at CC hr hcz
   have CN : Hid (∀ W, Calls Tryz.prog 21 #[.string (S cu1)] W fun e w' => e = .returned (.bool (nameL cu1)) ∧ Below W.heap.size W w') := Lib.hid fun W => name_any (S cu1) W (by rw [S_size]; unfold maxLen; omega)
   have CR : Hid (∀ W, Calls Tryz.prog 27 #[.string xt] W fun e w' => e = .returned (.bool (oneB reservedWs (L xt))) ∧ W = w') := Lib.hid fun W => reserved_any xt W
   obtain ⟨nm, hnm⟩ : ∃ b, nameL cu1 = b := ⟨_, rfl⟩
   obtain ⟨rs, hrs⟩ : ∃ b, oneB reservedWs (L xt) = b := ⟨_, rfl⟩
   rw [hnm] at hr CN
   rw [hrs] at hr CR
   have HR := Lib.hid hr
   have HX := Lib.hid hxr
   have e1 : ((n : Int) == 0) = false := by rw [beq_eq_false_iff_ne]; omega
   clear hn hl hx hr0 hr hxr hxk hxq hxt2 hcu hnm hrs
   cases hk : (xk == 1) with
   | false =>
     have HE : Hid (r = true) := Lib.hid (by rw [HR.out, hk]; rfl)
     have hk2 : (xk != 1) = true := by rw [bne, hk]; rfl
     clear hk
     go_enter Tryz.func90, Tryz.ntmps90
     go_wp2
     go_ret
     exact ⟨ret_bool HE.out.symm, bg⟩
   | true =>
     have hk2 : (xk != 1) = false := by rw [bne, hk]; rfl
     rw [hk] at HR
     clear hk
     cases xq with
     | true =>
       have HE : Hid (r = true) := Lib.hid (by rw [HR.out]; rfl)
       go_enter Tryz.func90, Tryz.ntmps90
       go_wp2
       go_ret
       exact ⟨ret_bool HE.out.symm, bg⟩
     | false =>
       cases cu3 with
       | false =>
         by_cases h1 : n = 1
         · subst h1
           clear e1
           have HE : Hid (r = !rs) := Lib.hid (by rw [HR.out, nil_of_len rfl (show xr.length = 0 by have := HX.out; omega)]; cases rs <;> simp)
           go_enter Tryz.func90, Tryz.ntmps90
           go_wp2_with fail
           refine (CC.out _ hcl).mono ?_
           rintro e w1 ⟨rfl, nq, rfl⟩
           go_wp2_with fail
           skip
           refine (CR.out _).mono ?_
           rintro e w3 ⟨rfl, rfl⟩
           go_wp2
           go_ret
           exact ⟨ret_bool HE.out.symm, bg⟩
         · have e2 : ((n : Int) == 1) = false := by rw [beq_eq_false_iff_ne]; omega
           have HE : Hid (r = true) := Lib.hid (by rw [HR.out, not_nil_of_len rfl (show 0 < xr.length by have := HX.out; omega)]; simp)
           go_enter Tryz.func90, Tryz.ntmps90
           go_wp2_with fail
           refine (CC.out _ hcl).mono ?_
           rintro e w1 ⟨rfl, nq, rfl⟩
           go_wp2_with fail
           skip
           go_wp2
           go_ret
           exact ⟨ret_bool HE.out.symm, bg⟩
       | true =>
         cases nm with
         | true =>
           have HE : Hid (r = false) := Lib.hid (by rw [HR.out]; rfl)
           go_enter Tryz.func90, Tryz.ntmps90
           go_wp2_with fail
           refine (CC.out _ hcl).mono ?_
           rintro e w1 ⟨rfl, nq, rfl⟩
           go_wp2_with fail
           refine (CN.out _).mono ?_
           rintro e w2 ⟨rfl, hb0⟩
           have hB : Below w.heap.size w w2 := since hb0 bg
           go_wp2
           go_ret
           exact ⟨ret_bool HE.out.symm, bg⟩
         | false =>
           by_cases h1 : n = 1
           · subst h1
             clear e1
             have HE : Hid (r = !rs) := Lib.hid (by rw [HR.out, nil_of_len rfl (show xr.length = 0 by have := HX.out; omega)]; cases rs <;> simp)
             go_enter Tryz.func90, Tryz.ntmps90
             go_wp2_with fail
             refine (CC.out _ hcl).mono ?_
             rintro e w1 ⟨rfl, nq, rfl⟩
             go_wp2_with fail
             (refine (CN.out _).mono ?_; rintro e w2 ⟨rfl, hb0⟩; have hB : Below w.heap.size w w2 := since hb0 bg; rw [← hB.cell (p := ⟨b, o + 2, none⟩) hbB] at g2; have hbB := Nat.lt_of_lt_of_le hbB hB.size; clear hb0; go_wp2_with fail)
             refine (CR.out _).mono ?_
             rintro e w3 ⟨rfl, rfl⟩
             go_wp2
             go_ret
             exact ⟨ret_bool HE.out.symm, bg⟩
           · have e2 : ((n : Int) == 1) = false := by rw [beq_eq_false_iff_ne]; omega
             have HE : Hid (r = true) := Lib.hid (by rw [HR.out, not_nil_of_len rfl (show 0 < xr.length by have := HX.out; omega)]; simp)
             go_enter Tryz.func90, Tryz.ntmps90
             go_wp2_with fail
             refine (CC.out _ hcl).mono ?_
             rintro e w1 ⟨rfl, nq, rfl⟩
             go_wp2_with fail
             (refine (CN.out _).mono ?_; rintro e w2 ⟨rfl, hb0⟩; have hB : Below w.heap.size w w2 := since hb0 bg; rw [← hB.cell (p := ⟨b, o + 2, none⟩) hbB] at g2; have hbB := Nat.lt_of_lt_of_le hbB hB.size; clear hb0; go_wp2_with fail)
             go_wp2
             go_ret
             exact ⟨ret_bool HE.out.symm, bg⟩

/-- The first word. -/
theorem WdsIn.first {w : World} {B d : Nat} {l : List (List Pt)} {v : Value} (h : WdsIn w B d l v) (h0 : 0 < l.length) : ∃ y b o a c, (∃ r, l = y :: r) ∧ (∀ w' : World, (Instr.indexAt 34 v (.int .i64 0)).run Tryz.prog w' = .ok (.pointer (some ⟨b, o, none⟩)) w') ∧ b < B ∧
 w.cell? ⟨b, o, none⟩ = some (.slice a y.length c) ∧ PtsIn w B d y (.slice a y.length c) := by
 cases l with
 | nil => simp at h0
 | cons y r =>
   obtain ⟨b, o, c, hi, hb, hc, ⟨v, rfl, hp⟩, _⟩ := h.at 34 29 Tryz.underlying34 (by kernel_rfl) (k := 0) (x := y) rfl
   obtain ⟨a, cap, rfl, _⟩ := hp.shape
   exact ⟨y, b, o, a, cap, ⟨r, rfl⟩, fun w' => hi w', hb, hc 0 _ rfl, hp⟩

set_option maxHeartbeats 1000000 in
set_option maxRecDepth 100000 in
theorem simple_any (wd : List Pt → Bool) (m : Int) (hwd : WordAt m wd) (x : Nd) (w : World) (d : Nat) (c : List Value) (hv : Held w) (hp : NdC w w.heap.size d x c) :
 Calls Tryz.prog 68 #[.agg #[.int .i64 m], .agg c.toArray] w fun e w' => e = .returned (.bool (simpleB wd x)) ∧ Below w.heap.size w w' := by
 obtain ⟨a1, c1, a2, c2, a3, c3, a4, c4, a5, c5, rfl, hxz, ⟨hn1, hn2, hn3, hn4, hn5⟩, hA, hW, _⟩ := hp.open
 obtain ⟨n1, hl1⟩ : ∃ n, x.assigns.length = n := ⟨_, rfl⟩
 obtain ⟨n2, hl2⟩ : ∃ n, x.words.length = n := ⟨_, rfl⟩
 obtain ⟨n3, hl3⟩ : ∃ n, x.redirs.length = n := ⟨_, rfl⟩
 obtain ⟨n4, hl4⟩ : ∃ n, x.lists.length = n := ⟨_, rfl⟩
 obtain ⟨n5, hl5⟩ : ∃ n, x.arms.length = n := ⟨_, rfl⟩
 rw [hl1] at hn1 hA ⊢
 rw [hl2] at hn2 hW ⊢
 rw [hl3] at hn3 ⊢
 rw [hl4] at hn4 ⊢
 rw [hl5] at hn5 ⊢
 have HA := Lib.hid hA
 have HW := Lib.hid hW
 have HV := Lib.hid hv
 have HWD := Lib.hid hwd
 have N1 := Lib.hid hl1
 have N2 := Lib.hid hl2
 have N3 := Lib.hid hl3
 have N4 := Lib.hid hl4
 have N5 := Lib.hid hl5
 have BX := Lib.hid (Bx.start w 67 #[.int .i64 m] 38 #[.int .i64 x.kind, .string x.name, .slice a1 n1 c1, .slice a2 n2 c2, .slice a3 n3 c3, .slice a4 n4 c4, .slice a5 n5 c5])
 obtain ⟨fa, hfa⟩ : ∃ f, (fun a : As => nameL (L a.name) && wd a.word) = f := ⟨_, rfl⟩
 obtain ⟨r, hr⟩ : ∃ r, simpleB wd x = r := ⟨_, rfl⟩
 rw [hr]
 rw [simpleB, hfa] at hr
 have HR := Lib.hid hr
 have HFA := Lib.hid hfa
 clear hl1 hl2 hl3 hl4 hl5 hA hW hp hv hwd hr hfa
 go_enter Tryz.func68, Tryz.ntmps68
 go_wp2_with fail
 go_loopw [10] (fun i W => ∃ k : Nat, k ≤ n1 ∧ i = .int .i64 k ∧ (x.assigns.take k).all fa = true ∧ Bx w W 67 #[.int .i64 m] 38 #[.int .i64 x.kind, .string x.name, .slice a1 n1 c1, .slice a2 n2 c2, .slice a3 n3 c3, .slice a4 n4 c4, .slice a5 n5 c5]) (fun i _ => n1 - (intOf i).toNat)
 case atStart => exact ⟨0, Nat.zero_le _, rfl, by simp, BX.out⟩
 case round =>
  obtain ⟨k, hk, rfl, hal, hbx⟩ := hrel
  have HAL := Lib.hid hal
  have BX1 := Lib.hid hbx
  clear hal hbx
  have K0BX1 := Lib.hid BX1.out.b0
  have K1BX1 := Lib.hid BX1.out.b1
  have hBBX1 := BX1.out.hb
  obtain ⟨b0, bf, bl⟩ := K0BX1.out.box1
  obtain ⟨p0, p1, p2, p3, p4, p5, p6, pl⟩ := K1BX1.out.box7
  by_cases hlt : k < n1
  · obtain ⟨y, hy⟩ : ∃ y, x.assigns[k]? = .some y := ⟨_, List.getElem?_eq_getElem (by rw [N1.out]; exact hlt)⟩
    obtain ⟨b, o, c, hi, hbB, hce, hC, _⟩ := HA.out.at 33 94 Tryz.underlying33 (by kernel_rfl) hy
    have HY := Lib.hid hy
    obtain ⟨a6, c6, rfl, hyz, hyl, hyw⟩ := hC.open
    have CW := Lib.hid (HWD.out.reads HV.out hyw false)
    have CN : Hid (∀ W, Below w.heap.size w W → Calls Tryz.prog 21 #[.string y.name] W fun e w' => e = .returned (.bool (nameL (L y.name))) ∧ Below W.heap.size W w') := Lib.hid fun W _ => name_any y.name W (by unfold maxLen; omega)
    have HF : Hid (fa y = (nameL (L y.name) && wd y.word)) := Lib.hid (by rw [← HFA.out])
    have e0 := (hBBX1.cell hbB).trans (hce 0 _ rfl)
    have e1 := (hBBX1.cell hbB).trans (hce 1 _ rfl)
    have hbB' := Nat.lt_of_lt_of_le hbB hBBX1.size
    rw [Nat.add_zero] at e0
    clear hy hce hC hyw
    obtain ⟨nm, hnm⟩ : ∃ r, nameL (L y.name) = r := ⟨_, rfl⟩
    obtain ⟨wv, hwr⟩ : ∃ r, (wd y.word && (!false || !y.word.isEmpty)) = r := ⟨_, rfl⟩
    have hwr2 : wd y.word = wv := by rw [← hwr]; simp
    rw [hnm] at CN HF
    rw [hwr] at CW
    rw [hwr2] at HF
    clear hnm hwr hwr2
    go_wp2_with fail
    refine (CN.out _ bg).mono ?_
    rintro e w1 ⟨rfl, hb0⟩
    obtain ⟨hcw1, hfw1⟩ := bcell hb0
    have hzw1 := hb0.size
    try simp only [World.size_alloc, World.size_setCell, World.size_drew, size_drewN] at hzw1
    have hBw1 : Below w.heap.size w w1 := since hb0 bg
    have BXw1 := Lib.hid (Bx.later BX1.out (since hb0 bg))
    clear hb0
    cases nm with
    | false =>
      have HE : Hid (r = false) := Lib.hid (by rw [← HR.out, all_no HY.out (show fa y = false by rw [HF.out]; rfl)]; rfl)
      go_wp2_with fail
      go_ret
      exact ⟨ret_bool HE.out.symm, bg⟩
    | true =>
      clear b0 bf bl p0 p1 p2 p3 p4 p5 p6 pl
      have K0BXw1 := Lib.hid BXw1.out.b0
      have K1BXw1 := Lib.hid BXw1.out.b1
      have hBBXw1 := BXw1.out.hb
      obtain ⟨b0, bf, bl⟩ := K0BXw1.out.box1
      obtain ⟨p0, p1, p2, p3, p4, p5, p6, pl⟩ := K1BXw1.out.box7
      have q1 : w1.cell? ⟨wr.heap.size, 1, none⟩ = some (.slice a6 y.word.length c6) := (hcw1 _ _ (by simp)).trans (by simp)
      go_wp2_with fail
      refine (CW.out _ bg).mono ?_
      rintro e w2 ⟨rfl, hb0⟩
      obtain ⟨hcw2, hfw2⟩ := bcell hb0
      have hzw2 := hb0.size
      try simp only [World.size_alloc, World.size_setCell, World.size_drew, size_drewN] at hzw2
      have hBw2 : Below w.heap.size w w2 := since hb0 bg
      have BXw2 := Lib.hid (Bx.later BXw1.out (since hb0 bg))
      clear hb0
      cases wv with
      | false =>
        have HE : Hid (r = false) := Lib.hid (by rw [← HR.out, all_no HY.out (show fa y = false by rw [HF.out]; rfl)]; rfl)
        go_wp2_with fail
        go_ret
        exact ⟨ret_bool HE.out.symm, bg⟩
      | true =>
        have HF2 : Hid (fa y = true) := Lib.hid (by rw [HF.out]; rfl)
        go_wp2_with fail
        go_roundw
        case rel => exact ⟨k + 1, by omega, by go_num, all_to HAL.out HY.out HF2.out, BXw2.out⟩
        case measure => simp [intOf]; omega
  · have HALL : Hid (x.assigns.all fa = true) := Lib.hid (all_end HAL.out (by rw [N1.out]; omega))
    have HR2 : Hid (r = ((match x.words with | [] => true | y :: _ => firstB y) && ((L x.name).isEmpty && ((x.lists.isEmpty && x.arms.isEmpty) && !(x.assigns.isEmpty && (x.words.isEmpty && x.redirs.isEmpty)))))) := Lib.hid (by rw [← HR.out, HALL.out]; rfl)
    clear HALL HAL
    rcases Nat.eq_zero_or_pos n2 with h0 | h0
    · subst h0
      have HR3 : Hid (r = ((L x.name).isEmpty && ((x.lists.isEmpty && x.arms.isEmpty) && !(x.assigns.isEmpty && (x.words.isEmpty && x.redirs.isEmpty))))) := Lib.hid (by rw [HR2.out, List.length_eq_zero_iff.1 N2.out]; rfl)
      cases hne : (L x.name).isEmpty with
      | false =>
        have e5 : x.name.toList.isEmpty = false := by rw [isEmpty_L]; exact hne
        have HE : Hid (r = false) := Lib.hid (by rw [HR3.out, hne]; rfl)
        clear hne
        go_wp2_with fail
        go_ret
        exact ⟨ret_bool HE.out.symm, bg⟩
      | true =>
        have e5 : x.name.toList.isEmpty = true := by rw [isEmpty_L]; exact hne
        by_cases h45 : n4 + n5 = 0
        · have e6 : ((n4 : Int) + (n5 : Int) == 0) = true := by rw [beq_iff_eq]; omega
          by_cases h0 : n1 + n3 = 0
          · have e7 : decide ((0 : Int) < (n1 : Int) + (n3 : Int)) = false := by simp; omega
            have HE : Hid (r = false) := Lib.hid (by rw [HR3.out, nil_of_len N1.out (by omega), nil_of_len N2.out (by omega), nil_of_len N3.out (by omega)]; simp)
            clear hne
            go_wp2_with fail
            go_ret
            exact ⟨ret_bool HE.out.symm, bg⟩
          · have e7 : decide ((0 : Int) < (n1 : Int) + (n3 : Int)) = true := by simp; omega
            have HE : Hid (r = true) := Lib.hid (by
             rw [HR3.out, hne, nil_of_len N4.out (by omega), nil_of_len N5.out (by omega)]
             rcases Nat.eq_zero_or_pos n1 with h1 | h1
             · rcases Nat.eq_zero_or_pos (0) with h2 | h2
               · rw [nil_of_len N1.out h1, nil_of_len N2.out h2, not_nil_of_len N3.out (by omega)]; rfl
               · rw [nil_of_len N1.out h1, not_nil_of_len N2.out h2]; rfl
             · rw [not_nil_of_len N1.out h1]; rfl)
            clear hne
            go_wp2_with fail
            go_ret
            exact ⟨ret_bool HE.out.symm, bg⟩
        · have e6 : ((n4 : Int) + (n5 : Int) == 0) = false := by rw [beq_eq_false_iff_ne]; omega
          have HE : Hid (r = false) := Lib.hid (by
           rw [HR3.out]
           rcases Nat.eq_zero_or_pos n4 with h1 | h1
           · rw [nil_of_len N4.out h1, not_nil_of_len N5.out (by omega)]; simp
           · rw [not_nil_of_len N4.out h1]; simp)
          clear hne
          go_wp2_with fail
          go_ret
          exact ⟨ret_bool HE.out.symm, bg⟩
    · obtain ⟨y, b, o, a6, c6, ⟨yr, hy⟩, hi, hbB, g0, hyp⟩ := HW.out.first (by rw [N2.out]; exact h0)
      have CF : Hid (∀ W, Below w.heap.size w W → Calls Tryz.prog 90 #[.slice a6 y.length c6] W fun e w' => e = .returned (.bool (firstB y)) ∧ Below W.heap.size W w') := Lib.hid fun W hW => first_any y _ W d (HV.out.below HV.out.2 hW) (hyp.later hW)
      have hr3 : r = (firstB y && ((L x.name).isEmpty && ((x.lists.isEmpty && x.arms.isEmpty) && !(x.assigns.isEmpty && (x.words.isEmpty && x.redirs.isEmpty))))) := by rw [HR2.out, hy]
      obtain ⟨fb, hfb⟩ : ∃ f, firstB y = f := ⟨_, rfl⟩
      rw [hfb] at CF hr3
      rw [← hBBX1.cell (p := ⟨b, o, none⟩) hbB] at g0
      have hbB' := Nat.lt_of_lt_of_le hbB hBBX1.size
      have HR4 := Lib.hid hr3
      have e2 : decide ((0 : Int) < (n2 : Int)) = true := by simp; omega
      clear hy hyp hfb hr3
      go_wp2_with fail
      refine (CF.out _ bg).mono ?_
      rintro e w1 ⟨rfl, hb0⟩
      obtain ⟨hcw1, hfw1⟩ := bcell hb0
      have hzw1 := hb0.size
      try simp only [World.size_alloc, World.size_setCell, World.size_drew, size_drewN] at hzw1
      have hBw1 : Below w.heap.size w w1 := since hb0 bg
      have BXw1 := Lib.hid (Bx.later BX1.out (since hb0 bg))
      clear hb0
      clear b0 bf bl p0 p1 p2 p3 p4 p5 p6 pl
      have K0BXw1 := Lib.hid BXw1.out.b0
      have K1BXw1 := Lib.hid BXw1.out.b1
      have hBBXw1 := BXw1.out.hb
      obtain ⟨b0, bf, bl⟩ := K0BXw1.out.box1
      obtain ⟨p0, p1, p2, p3, p4, p5, p6, pl⟩ := K1BXw1.out.box7
      cases fb with
      | false =>
        have HE : Hid (r = false) := Lib.hid (by rw [HR4.out]; rfl)
        go_wp2_with fail
        go_ret
        exact ⟨ret_bool HE.out.symm, bg⟩
      | true =>
        have HR3 : Hid (r = ((L x.name).isEmpty && ((x.lists.isEmpty && x.arms.isEmpty) && !(x.assigns.isEmpty && (x.words.isEmpty && x.redirs.isEmpty))))) := Lib.hid (by rw [HR4.out]; rfl)
        clear e2 h0
        cases hne : (L x.name).isEmpty with
        | false =>
          have e5 : x.name.toList.isEmpty = false := by rw [isEmpty_L]; exact hne
          have HE : Hid (r = false) := Lib.hid (by rw [HR3.out, hne]; rfl)
          clear hne
          go_wp2_with fail
          go_ret
          exact ⟨ret_bool HE.out.symm, bg⟩
        | true =>
          have e5 : x.name.toList.isEmpty = true := by rw [isEmpty_L]; exact hne
          by_cases h45 : n4 + n5 = 0
          · have e6 : ((n4 : Int) + (n5 : Int) == 0) = true := by rw [beq_iff_eq]; omega
            by_cases h0 : n1 + n2 + n3 = 0
            · have e7 : decide ((0 : Int) < (n1 : Int) + (n2 : Int) + (n3 : Int)) = false := by simp; omega
              have HE : Hid (r = false) := Lib.hid (by rw [HR3.out, nil_of_len N1.out (by omega), nil_of_len N2.out (by omega), nil_of_len N3.out (by omega)]; simp)
              clear hne
              go_wp2_with fail
              go_ret
              exact ⟨ret_bool HE.out.symm, bg⟩
            · have e7 : decide ((0 : Int) < (n1 : Int) + (n2 : Int) + (n3 : Int)) = true := by simp; omega
              have HE : Hid (r = true) := Lib.hid (by
               rw [HR3.out, hne, nil_of_len N4.out (by omega), nil_of_len N5.out (by omega)]
               rcases Nat.eq_zero_or_pos n1 with h1 | h1
               · rcases Nat.eq_zero_or_pos (n2) with h2 | h2
                 · rw [nil_of_len N1.out h1, nil_of_len N2.out h2, not_nil_of_len N3.out (by omega)]; rfl
                 · rw [nil_of_len N1.out h1, not_nil_of_len N2.out h2]; rfl
               · rw [not_nil_of_len N1.out h1]; rfl)
              clear hne
              go_wp2_with fail
              go_ret
              exact ⟨ret_bool HE.out.symm, bg⟩
          · have e6 : ((n4 : Int) + (n5 : Int) == 0) = false := by rw [beq_eq_false_iff_ne]; omega
            have HE : Hid (r = false) := Lib.hid (by
             rw [HR3.out]
             rcases Nat.eq_zero_or_pos n4 with h1 | h1
             · rw [nil_of_len N4.out h1, not_nil_of_len N5.out (by omega)]; simp
             · rw [not_nil_of_len N4.out h1]; simp)
            clear hne
            go_wp2_with fail
            go_ret
            exact ⟨ret_bool HE.out.symm, bg⟩
end Go.Proofs.YtnackmnoldkihaaGreatDoor
/-
  The walks of bare, lists, alone, and of the tests of kinds.
-/
namespace Go.Proofs.YtnackmnoldkihaaGreatDoor
open Go.RowKit

/-- A command's cells, for the walks that box it. -/
theorem bare_nd (x : Nd) (w : World) (d : Nat) (c : List Value) (hp : NdC w w.heap.size d x c) :
 Calls Tryz.prog 91 #[.agg c.toArray] w fun e w' => e = .returned (.bool (bareN x)) ∧ Below w.heap.size w w' := by
 obtain ⟨a1, c1, a2, c2, a3, c3, a4, c4, a5, c5, rfl, hxz, ⟨hn1, hn2, hn3, hn4, hn5⟩, _⟩ := hp.open
 clear hp
 obtain ⟨n1, hl1⟩ : ∃ n, x.assigns.length = n := ⟨_, rfl⟩
 obtain ⟨n2, hl2⟩ : ∃ n, x.words.length = n := ⟨_, rfl⟩
 obtain ⟨n3, hl3⟩ : ∃ n, x.redirs.length = n := ⟨_, rfl⟩
 obtain ⟨n4, hl4⟩ : ∃ n, x.lists.length = n := ⟨_, rfl⟩
 obtain ⟨n5, hl5⟩ : ∃ n, x.arms.length = n := ⟨_, rfl⟩
 rw [hl1] at hn1 ⊢
 rw [hl2] at hn2 ⊢
 rw [hl3] at hn3 ⊢
 rw [hl4] at hn4 ⊢
 rw [hl5] at hn5 ⊢
 have HR : Hid (bareN x = ((L x.name).isEmpty && decide (n1 + n2 + n5 = 0))) := Lib.hid (by
  rw [bareN, nil_of hl1, nil_of hl2, nil_of hl5]
  congr 1
  rw [Bool.eq_iff_iff]; simp; omega)
 clear hl1 hl2 hl3 hl4 hl5
 cases hne : (L x.name).isEmpty with
 | false =>
   have e5 : x.name.toList.isEmpty = false := by rw [isEmpty_L]; exact hne
   rw [hne] at HR
   clear hne
   go_enter Tryz.func91, Tryz.ntmps91
   go_wp2
   go_ret
   exact ⟨ret_bool HR.out.symm, bg⟩
 | true =>
   have e5 : x.name.toList.isEmpty = true := by rw [isEmpty_L]; exact hne
   rw [hne] at HR
   clear hne
   by_cases h0 : n1 + n2 + n5 = 0
   · have e6 : ((n1 : Int) + (n2 : Int) + (n5 : Int) == 0) = true := by rw [beq_iff_eq]; omega
     rw [decide_eq_true h0] at HR
     clear h0
     go_enter Tryz.func91, Tryz.ntmps91
     go_wp2
     go_ret
     exact ⟨ret_bool HR.out.symm, bg⟩
   · have e6 : ((n1 : Int) + (n2 : Int) + (n5 : Int) == 0) = false := by rw [beq_eq_false_iff_ne]; omega
     rw [decide_eq_false h0] at HR
     clear h0
     go_enter Tryz.func91, Tryz.ntmps91
     go_wp2
     go_ret
     exact ⟨ret_bool HR.out.symm, bg⟩

set_option maxHeartbeats 1000000 in
set_option maxRecDepth 100000 in
theorem lists_any (ls : List Nd → Bool) (m : Int) (hls : ListAt m ls) (x : Nd) (count : Nat) (hct : count ≤ 2000000) (w : World) (d : Nat) (c : List Value) (hv : Held w) (hp : NdC w w.heap.size d x c) :
 Calls Tryz.prog 96 #[.agg #[.int .i64 m], .agg c.toArray, .int .i64 (count : Int)] w fun e w' => e = .returned (.bool (listsB ls x count)) ∧ Below w.heap.size w w' := by
 obtain ⟨a1, c1, a2, c2, a3, c3, a4, c4, a5, c5, rfl, hxz, ⟨hn1, hn2, hn3, hn4, hn5⟩, _, _, _, hLs, _⟩ := hp.open
 clear hp
 obtain ⟨n1, hl1⟩ : ∃ n, x.assigns.length = n := ⟨_, rfl⟩
 obtain ⟨n2, hl2⟩ : ∃ n, x.words.length = n := ⟨_, rfl⟩
 obtain ⟨n3, hl3⟩ : ∃ n, x.redirs.length = n := ⟨_, rfl⟩
 obtain ⟨n, hl4⟩ : ∃ n, x.lists.length = n := ⟨_, rfl⟩
 obtain ⟨n5, hl5⟩ : ∃ n, x.arms.length = n := ⟨_, rfl⟩
 rw [hl4] at hn4 hLs
 rw [hl1, hl2, hl3, hl4, hl5]
 have HL := Lib.hid hLs
 have HN := Lib.hid hl4
 have HV := Lib.hid hv
 have HLS := Lib.hid hls
 have HR : Hid (listsB ls x count = (decide (n = count) && x.lists.all (somesB ls))) := Lib.hid (by rw [listsB, hl4])
 obtain ⟨r, hr⟩ : ∃ r, listsB ls x count = r := ⟨_, rfl⟩
 rw [hr] at HR ⊢
 have BX := Lib.hid (Bx.start w 67 #[.int .i64 m] 38 #[.int .i64 x.kind, .string x.name, .slice a1 n1 c1, .slice a2 n2 c2, .slice a3 n3 c3, .slice a4 n c4, .slice a5 n5 c5])
 clear hl1 hl2 hl3 hl4 hl5 hLs hv hls hr
 by_cases hnc : n = count
 · subst hnc
   rw [decide_eq_true rfl, Bool.true_and] at HR
   go_enter Tryz.func96, Tryz.ntmps96
   go_wp2_with fail
   go_loopw [17] (fun i W => ∃ k : Nat, k ≤ n ∧ i = .int .i64 k ∧ (x.lists.take k).all (somesB ls) = true ∧ Bx w W 67 #[.int .i64 m] 38 #[.int .i64 x.kind, .string x.name, .slice a1 n1 c1, .slice a2 n2 c2, .slice a3 n3 c3, .slice a4 n c4, .slice a5 n5 c5]) (fun i _ => n - (intOf i).toNat)
   case atStart => exact ⟨0, Nat.zero_le _, rfl, by simp, BX.out⟩
   case round =>
    obtain ⟨k, hk, rfl, hal, hbx⟩ := hrel
    have HAL := Lib.hid hal
    have BX1 := Lib.hid hbx
    clear hal hbx
    have K0BX1 := Lib.hid BX1.out.b0
    have K1BX1 := Lib.hid BX1.out.b1
    have hBBX1 := BX1.out.hb
    obtain ⟨b0, bf, bl⟩ := K0BX1.out.box1
    obtain ⟨p0, p1, p2, p3, p4, p5, p6, pl⟩ := K1BX1.out.box7
    by_cases hlt : k < n
    · obtain ⟨y, hy⟩ : ∃ y, x.lists[k]? = .some y := ⟨_, List.getElem?_eq_getElem (by rw [HN.out]; exact hlt)⟩
      obtain ⟨b, o, c, hi, hbB, hce, ⟨yv, rfl, hyp⟩, _⟩ := HL.out.at 35 22 Tryz.underlying35 (by kernel_rfl) hy
      have HY := Lib.hid hy
      obtain ⟨a6, c6, rfl, _⟩ := hyp.shape
      have CL := Lib.hid (HLS.out.reads HV.out hyp false)
      have e0 := (hBBX1.cell hbB).trans (hce 0 _ rfl)
      have hbB' := Nat.lt_of_lt_of_le hbB hBBX1.size
      rw [Nat.add_zero] at e0
      clear hy hce hyp
      obtain ⟨rr, hrr⟩ : ∃ r, (ls y && (false || !y.isEmpty)) = r := ⟨_, rfl⟩
      rw [hrr] at CL
      have HS : Hid (somesB ls y = rr) := Lib.hid (by rw [← hrr, somesB]; simp)
      clear hrr
      go_wp2_with fail
      refine (CL.out _ bg).mono ?_
      rintro e w1 ⟨rfl, hb0⟩
      obtain ⟨hcw1, hfw1⟩ := bcell hb0
      have hzw1 := hb0.size
      try simp only [World.size_alloc, World.size_setCell, World.size_drew, size_drewN] at hzw1
      have hBw1 : Below w.heap.size w w1 := since hb0 bg
      have BXw1 := Lib.hid (Bx.later BX1.out (since hb0 bg))
      clear hb0
      cases rr with
      | false =>
        have HE : Hid (r = false) := Lib.hid (by rw [HR.out, all_no HY.out HS.out])
        go_wp2_with fail
        go_ret
        exact ⟨ret_bool HE.out.symm, bg⟩
      | true =>
        go_wp2_with fail
        go_roundw
        case rel => exact ⟨k + 1, by omega, by go_num, all_to HAL.out HY.out HS.out, BXw1.out⟩
        case measure => simp [intOf]; omega
    · have HE : Hid (r = true) := Lib.hid (by rw [HR.out, all_end HAL.out (by rw [HN.out]; omega)])
      go_wp2_with fail
      go_ret
      exact ⟨ret_bool HE.out.symm, bg⟩
 · have HE : Hid (r = false) := Lib.hid (by rw [HR.out, decide_eq_false hnc]; rfl)
   have e1 : ((n : Int) != (count : Int)) = true := by rw [bne_iff_ne]; omega
   go_enter Tryz.func96, Tryz.ntmps96
   go_wp2_with fail
   go_ret
   exact ⟨ret_bool HE.out.symm, bg⟩
end Go.Proofs.YtnackmnoldkihaaGreatDoor
namespace Go.Proofs.YtnackmnoldkihaaGreatDoor
open Go.RowKit

theorem may_pipe (i k : Int) (w : World) : Calls Tryz.prog 93 #[.int .i64 i, .int .i64 k] w fun e w' => e = .returned (.bool (k == 1 || decide (6 ≤ k))) ∧ w = w' := by
 cases h1 : (k == 1) with
 | true =>
   go_enter Tryz.func93, Tryz.ntmps93
   go_wp2
   go_ret
   exact ⟨rfl, rfl⟩
 | false =>
   go_enter Tryz.func93, Tryz.ntmps93
   go_wp2
   go_ret
   exact ⟨ret_bool (by simp), rfl⟩
theorem may_not (i k : Int) (w : World) : Calls Tryz.prog 94 #[.int .i64 i, .int .i64 k] w fun e w' => e = .returned (.bool (k == 1 || (k == 2 || decide (6 ≤ k)))) ∧ w = w' := by
 cases h1 : (k == 1) with
 | true =>
   go_enter Tryz.func94, Tryz.ntmps94
   go_wp2
   go_ret
   exact ⟨rfl, rfl⟩
 | false =>
   cases h2 : (k == 2) with
   | true =>
     go_enter Tryz.func94, Tryz.ntmps94
     go_wp2
     go_ret
     exact ⟨rfl, rfl⟩
   | false =>
     go_enter Tryz.func94, Tryz.ntmps94
     go_wp2
     go_ret
     exact ⟨ret_bool (by simp), rfl⟩
theorem may_and (i k : Int) (w : World) : Calls Tryz.prog 95 #[.int .i64 i, .int .i64 k] w fun e w' => e = .returned (.bool (i == 0 || (k != 3 && k != 4))) ∧ w = w' := by
 cases h1 : (i == 0) with
 | true =>
   go_enter Tryz.func95, Tryz.ntmps95
   go_wp2
   go_ret
   exact ⟨rfl, rfl⟩
 | false =>
   cases h2 : (k != 3) with
   | true =>
     go_enter Tryz.func95, Tryz.ntmps95
     go_wp2
     go_ret
     exact ⟨ret_bool (by simp), rfl⟩
   | false =>
     go_enter Tryz.func95, Tryz.ntmps95
     go_wp2
     go_ret
     exact ⟨ret_bool (by simp), rfl⟩
theorem may_func (i k : Int) (w : World) : Calls Tryz.prog 98 #[.int .i64 i, .int .i64 k] w fun e w' => e = .returned (.bool (decide (6 ≤ k) && k != 11)) ∧ w = w' := by
 cases h1 : decide (6 ≤ k) with
 | true =>
   go_enter Tryz.func98, Tryz.ntmps98
   go_wp2
   go_ret
   exact ⟨ret_bool (by simp), rfl⟩
 | false =>
   go_enter Tryz.func98, Tryz.ntmps98
   go_wp2
   go_ret
   exact ⟨rfl, rfl⟩
end Go.Proofs.YtnackmnoldkihaaGreatDoor
