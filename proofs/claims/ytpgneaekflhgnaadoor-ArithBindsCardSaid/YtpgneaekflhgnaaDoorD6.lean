/-
  The walk of the document's Eval, of a row as a tree.
-/
import Derived.Test.YtpgneaekflhgnaaDoorD4
import Derived.Test.YtpgneaekflhgnaaDoorD5
import Derived.Test.YtpgneaekflhgnaaDoorA13
namespace Go.Proofs.YtpgneaekflhgnaaDoor
open Go.RowKit

def evV (x : Option Int) : Value := match x with
  | some v => .tuple #[.int .i64 v, .slice none 0 0, .int .i64 0]
  | none => .tuple #[.int .i64 0, .slice none 0 0, .int .i64 32]
def EvOK (t : ET) : Prop := ∀ (cs : List Value) (lo : Nat) (w : World), EC w lo t cs → allI t → Calls Tryd.prog 9 #[.agg cs.toArray, .slice none 0 0] w fun e w' => e = .returned (evV (evalT t)) ∧ Below w.heap.size w w'
set_option maxHeartbeats 1000000 in
set_option maxRecDepth 100000 in
theorem ev_num (n : Int) : EvOK (.num n) := by
  intro cs lo w h _
  rw [EC] at h
  subst h
  go_enter Tryd.func9, Tryd.ntmps9
  go_wp2_with fail
  go_ret3
  exact ⟨rfl, (Below.refl _ _).alloc (Nat.le_refl _) _⟩
set_option maxHeartbeats 2000000 in
set_option maxRecDepth 100000 in
theorem ev_join (o : Nat) (a b : ET) (ha : EvOK a) (hb : EvOK b) : EvOK (.join o a b) := by
  intro cs lo w h hI
  obtain ⟨g, a0, a1, a2, a3, a4, b0, b1, b2, b3, b4, rfl, _, hk, hea, heb⟩ := h
  obtain ⟨ho, hia, hib⟩ := hI
  have CA : Hid (∀ W, Below w.heap.size w W → Calls Tryd.prog 9 #[.agg #[a0, a1, a2, a3, a4], .slice none 0 0] W fun e w' => e = .returned (evV (evalT a)) ∧ Below W.heap.size W w') := Lib.hid fun W hW => ha _ lo W (hea.below hW) hia
  have CB : Hid (∀ W, Below w.heap.size w W → Calls Tryd.prog 9 #[.agg #[b0, b1, b2, b3, b4], .slice none 0 0] W fun e w' => e = .returned (evV (evalT b)) ∧ Below W.heap.size W w') := Lib.hid fun W hW => hb _ lo W (heb.below hW) hib
  have HIN : Hid (∀ v, evalT a = some v → inI v) := Lib.hid fun v h => evalT_in a v hia h
  have c0 := hk.cell 0
  have c1 := hk.cell 1
  have c2 := hk.cell 2
  have c3 := hk.cell 3
  have c4 := hk.cell 4
  have c5 := hk.cell 5
  have c6 := hk.cell 6
  have c7 := hk.cell 7
  have c8 := hk.cell 8
  have c9 := hk.cell 9
  simp at c0 c1 c2 c3 c4 c5 c6 c7 c8 c9
  have hg := hk.lt
  have HK := Lib.hid hk
  rw [evalT]
  clear ha hb hea heb hk hia hib
  have CD : Hid (∀ x y W, 2 ≤ o → inI x → Calls Tryd.prog 22 #[.string (S (opB o)), .int .i64 x, .int .i64 y] W fun e w' => e = .returned (doV (apO o x y)) ∧ W = w') := Lib.hid fun x y W h hx => rdo_any h ho x y hx W
  have HO2 : Hid (2 ≤ o → ∀ (x : Int) (y : Option Int), combV apO o (some x) y = y.bind fun z => apO o x z) := Lib.hid fun h x y => by
    have h0 : o ≠ 0 := by omega
    have h1 : o ≠ 1 := by omega
    simp [combV, h0, h1]
  obtain ⟨t1, t2⟩ := op_tests o ho
  obtain ⟨st, hst⟩ : ∃ st, st = S (opB o) := ⟨_, rfl⟩
  rw [← hst] at CD ⊢
  have e1 : (st.toList == [124, 124]) = (opB o == [124, 124]) := by rw [hst, toList_S]
  have e2 : (st.toList == [38, 38]) = (opB o == [38, 38]) := by rw [hst, toList_S]
  clear hst
  obtain ⟨W1, hW1⟩ : ∃ W1, W1 = w.alloc (.cells #[.int .i64 4, .int .i64 0, .string ⟨#[]⟩, .string st, .slice (some ⟨g, 0, none⟩) 2 2] 38) := ⟨_, rfl⟩
  have hB1 : Below w.heap.size w W1 := by rw [hW1]; exact (Below.refl _ _).alloc (Nat.le_refl _) _
  have hbk : Blk W1 w.heap.size 38 #[.int .i64 4, .int .i64 0, .string ⟨#[]⟩, .string st, .slice (some ⟨g, 0, none⟩) 2 2] := by rw [hW1]; exact Blk.at rfl
  have HC : Hid (∀ W, Below W1.heap.size W1 W → (W.cell? ⟨w.heap.size, 3, none⟩ = some (.string st) ∧ W.cell? ⟨w.heap.size, 4, none⟩ = some (.slice (some ⟨g, 0, none⟩) 2 2)) ∧ W.cell? ⟨g, 5, none⟩ = some b0 ∧ W.cell? ⟨g, 6, none⟩ = some b1 ∧ W.cell? ⟨g, 7, none⟩ = some b2 ∧ W.cell? ⟨g, 8, none⟩ = some b3 ∧ W.cell? ⟨g, 9, none⟩ = some b4) := Lib.hid fun W hW => by
    have k1 := hbk.below hW hbk.lt
    have k2 := (HK.out.below hB1 HK.out.lt).below hW ((HK.out.below hB1 HK.out.lt).lt)
    exact ⟨⟨k1.cell 3, k1.cell 4⟩, k2.cell 5, k2.cell 6, k2.cell 7, k2.cell 8, k2.cell 9⟩
  have HB1 := Lib.hid hB1
  clear hbk hB1
  cases hx : evalT a with
  | none =>
    rw [hx, show evV none = .tuple #[.int .i64 0, .slice none 0 0, .int .i64 32] from rfl] at CA
    clear hx CD HO2 CB HIN e1 e2 t1 t2
    go_enter Tryd.func9, Tryd.ntmps9
    go_wp2_with fail
    rw [← hW1]
    clear hW1
    refine (CA.out _ HB1.out).mono ?_
    rintro e w2 ⟨rfl, hb2⟩
    obtain ⟨⟨y3, y4⟩, z5, z6, z7, z8, z9⟩ := HC.out w2 hb2
    have HB2 := Lib.hid (HB1.out.trans (hb2.mono HB1.out.size))
    have HW2 := Lib.hid hb2
    clear hb2 c0 c1 c2 c3 c4 c5 c6 c7 c8 c9
    go_wp2_with fail
    go_ret3
    exact ⟨rfl, HB2.out⟩
  | some x =>
    have HXI := Lib.hid (HIN.out x hx)
    rw [hx, show evV (some x) = .tuple #[.int .i64 x, .slice none 0 0, .int .i64 0] from rfl] at CA
    rw [← hx]
    have HX := Lib.hid hx
    clear hx HIN
    by_cases h0 : o = 0
    · subst h0
      rw [show (opB 0 == [124, 124]) = true from rfl] at e1
      rw [show (opB 0 == [38, 38]) = false from rfl] at e2
      clear CD HO2 t1 t2
      by_cases hz : x = 0
      · subst hz
        have HXN := trivial
        cases hy : evalT b with
        | none =>
          rw [hy, show evV none = .tuple #[.int .i64 0, .slice none 0 0, .int .i64 32] from rfl] at CB
          have HY := Lib.hid hy
          clear hy
          go_enter Tryd.func9, Tryd.ntmps9
          go_wp2_with fail
          rw [← hW1]
          clear hW1
          refine (CA.out _ HB1.out).mono ?_
          rintro e w2 ⟨rfl, hb2⟩
          obtain ⟨⟨y3, y4⟩, z5, z6, z7, z8, z9⟩ := HC.out w2 hb2
          have HB2 := Lib.hid (HB1.out.trans (hb2.mono HB1.out.size))
          have HW2 := Lib.hid hb2
          clear hb2 c0 c1 c2 c3 c4 c5 c6 c7 c8 c9
          go_wp2_with fail
          refine (CB.out _ HB2.out).mono ?_
          rintro e w3 ⟨rfl, hb3⟩
          obtain ⟨⟨x3, x4⟩, v5, v6, v7, v8, v9⟩ := HC.out w3 (HW2.out.trans (hb3.mono HW2.out.size))
          have HB3 := Lib.hid (HB2.out.trans (hb3.mono HB2.out.size))
          clear hb3 y3 y4 z5 z6 z7 z8 z9 v5 v6 v7 v8 v9
          go_wp2_with fail
          go_ret3
          exact ⟨by rw [HX.out]; simp [combV, if_true]; rfl, HB3.out⟩
        | some y =>
          rw [hy, show evV (some y) = .tuple #[.int .i64 y, .slice none 0 0, .int .i64 0] from rfl] at CB
          have HY := Lib.hid hy
          clear hy
          go_enter Tryd.func9, Tryd.ntmps9
          go_wp2_with fail
          rw [← hW1]
          clear hW1
          refine (CA.out _ HB1.out).mono ?_
          rintro e w2 ⟨rfl, hb2⟩
          obtain ⟨⟨y3, y4⟩, z5, z6, z7, z8, z9⟩ := HC.out w2 hb2
          have HB2 := Lib.hid (HB1.out.trans (hb2.mono HB1.out.size))
          have HW2 := Lib.hid hb2
          clear hb2 c0 c1 c2 c3 c4 c5 c6 c7 c8 c9
          go_wp2_with fail
          refine (CB.out _ HB2.out).mono ?_
          rintro e w3 ⟨rfl, hb3⟩
          obtain ⟨⟨x3, x4⟩, v5, v6, v7, v8, v9⟩ := HC.out w3 (HW2.out.trans (hb3.mono HW2.out.size))
          have HB3 := Lib.hid (HB2.out.trans (hb3.mono HB2.out.size))
          clear hb3 y3 y4 z5 z6 z7 z8 z9 v5 v6 v7 v8 v9
          go_wp2_with fail
          refine (rtruth_any _ _).mono ?_
          rintro e w4 ⟨rfl, rfl⟩
          go_wp2_with fail
          go_ret3
          exact ⟨by rw [HX.out]; simp [combV, evV, truI, if_true], HB3.out⟩
      · have HZ := Lib.hid hz
        have hz1 : ((x : Int) != 0) = true := by rw [bne_iff_ne]; exact hz
        have hz2 : ((x : Int) == 0) = false := by rw [beq_eq_false_iff_ne]; exact hz
        clear hz CB
        go_enter Tryd.func9, Tryd.ntmps9
        go_wp2_with fail
        rw [← hW1]
        clear hW1
        refine (CA.out _ HB1.out).mono ?_
        rintro e w2 ⟨rfl, hb2⟩
        obtain ⟨⟨y3, y4⟩, z5, z6, z7, z8, z9⟩ := HC.out w2 hb2
        have HB2 := Lib.hid (HB1.out.trans (hb2.mono HB1.out.size))
        have HW2 := Lib.hid hb2
        clear hb2 c0 c1 c2 c3 c4 c5 c6 c7 c8 c9
        go_wp2_with fail
        refine (rtruth_any _ _).mono ?_
        rintro e w4 ⟨rfl, rfl⟩
        go_wp2_with fail
        go_ret3
        exact ⟨by rw [HX.out]; simp [combV, evV, truI, HZ.out], HB2.out⟩
    · by_cases h1 : o = 1
      · subst h1
        rw [show (opB 1 == [124, 124]) = false from rfl] at e1
        rw [show (opB 1 == [38, 38]) = true from rfl] at e2
        clear CD HO2 t1 t2 h0
        by_cases hz : x = 0
        · subst hz
          clear CB
          go_enter Tryd.func9, Tryd.ntmps9
          go_wp2_with fail
          rw [← hW1]
          clear hW1
          refine (CA.out _ HB1.out).mono ?_
          rintro e w2 ⟨rfl, hb2⟩
          obtain ⟨⟨y3, y4⟩, z5, z6, z7, z8, z9⟩ := HC.out w2 hb2
          have HB2 := Lib.hid (HB1.out.trans (hb2.mono HB1.out.size))
          have HW2 := Lib.hid hb2
          clear hb2 c0 c1 c2 c3 c4 c5 c6 c7 c8 c9
          go_wp2_with fail
          refine (rtruth_any _ _).mono ?_
          rintro e w4 ⟨rfl, rfl⟩
          go_wp2_with fail
          go_ret3
          exact ⟨by rw [HX.out]; simp [combV, evV, truI], HB2.out⟩
        · have HZ := Lib.hid hz
          have hz1 : ((x : Int) != 0) = true := by rw [bne_iff_ne]; exact hz
          have hz2 : ((x : Int) == 0) = false := by rw [beq_eq_false_iff_ne]; exact hz
          clear hz
          cases hy : evalT b with
          | none =>
            rw [hy, show evV none = .tuple #[.int .i64 0, .slice none 0 0, .int .i64 32] from rfl] at CB
            have HY := Lib.hid hy
            clear hy
            go_enter Tryd.func9, Tryd.ntmps9
            go_wp2_with fail
            rw [← hW1]
            clear hW1
            refine (CA.out _ HB1.out).mono ?_
            rintro e w2 ⟨rfl, hb2⟩
            obtain ⟨⟨y3, y4⟩, z5, z6, z7, z8, z9⟩ := HC.out w2 hb2
            have HB2 := Lib.hid (HB1.out.trans (hb2.mono HB1.out.size))
            have HW2 := Lib.hid hb2
            clear hb2 c0 c1 c2 c3 c4 c5 c6 c7 c8 c9
            go_wp2_with fail
            refine (CB.out _ HB2.out).mono ?_
            rintro e w3 ⟨rfl, hb3⟩
            obtain ⟨⟨x3, x4⟩, v5, v6, v7, v8, v9⟩ := HC.out w3 (HW2.out.trans (hb3.mono HW2.out.size))
            have HB3 := Lib.hid (HB2.out.trans (hb3.mono HB2.out.size))
            clear hb3 y3 y4 z5 z6 z7 z8 z9 v5 v6 v7 v8 v9
            go_wp2_with fail
            go_ret3
            exact ⟨by rw [HX.out]; simp [combV, HZ.out]; rfl, HB3.out⟩
          | some y =>
            rw [hy, show evV (some y) = .tuple #[.int .i64 y, .slice none 0 0, .int .i64 0] from rfl] at CB
            have HY := Lib.hid hy
            clear hy
            go_enter Tryd.func9, Tryd.ntmps9
            go_wp2_with fail
            rw [← hW1]
            clear hW1
            refine (CA.out _ HB1.out).mono ?_
            rintro e w2 ⟨rfl, hb2⟩
            obtain ⟨⟨y3, y4⟩, z5, z6, z7, z8, z9⟩ := HC.out w2 hb2
            have HB2 := Lib.hid (HB1.out.trans (hb2.mono HB1.out.size))
            have HW2 := Lib.hid hb2
            clear hb2 c0 c1 c2 c3 c4 c5 c6 c7 c8 c9
            go_wp2_with fail
            refine (CB.out _ HB2.out).mono ?_
            rintro e w3 ⟨rfl, hb3⟩
            obtain ⟨⟨x3, x4⟩, v5, v6, v7, v8, v9⟩ := HC.out w3 (HW2.out.trans (hb3.mono HW2.out.size))
            have HB3 := Lib.hid (HB2.out.trans (hb3.mono HB2.out.size))
            clear hb3 y3 y4 z5 z6 z7 z8 z9 v5 v6 v7 v8 v9
            go_wp2_with fail
            refine (rtruth_any _ _).mono ?_
            rintro e w4 ⟨rfl, rfl⟩
            go_wp2_with fail
            go_ret3
            exact ⟨by rw [HX.out]; simp [combV, evV, truI, HZ.out], HB3.out⟩
      · have ho2 : 2 ≤ o := by omega
        obtain ⟨t2, t3⟩ := t2 ho2
        rw [t2] at e1
        rw [t3] at e2
        have HCV := Lib.hid (HO2.out ho2)
        have CD2 := Lib.hid (fun y W => CD.out x y W ho2 HXI.out)
        clear CD HO2 t1 t2 t3 h0 h1 ho2 ho
        cases hy : evalT b with
        | none =>
          rw [hy, show evV none = .tuple #[.int .i64 0, .slice none 0 0, .int .i64 32] from rfl] at CB
          have HY := Lib.hid hy
          clear hy
          go_enter Tryd.func9, Tryd.ntmps9
          go_wp2_with fail
          rw [← hW1]
          clear hW1
          refine (CA.out _ HB1.out).mono ?_
          rintro e w2 ⟨rfl, hb2⟩
          obtain ⟨⟨y3, y4⟩, z5, z6, z7, z8, z9⟩ := HC.out w2 hb2
          have HB2 := Lib.hid (HB1.out.trans (hb2.mono HB1.out.size))
          have HW2 := Lib.hid hb2
          clear hb2 c0 c1 c2 c3 c4 c5 c6 c7 c8 c9
          go_wp2_with fail
          refine (CB.out _ HB2.out).mono ?_
          rintro e w3 ⟨rfl, hb3⟩
          obtain ⟨⟨x3, x4⟩, v5, v6, v7, v8, v9⟩ := HC.out w3 (HW2.out.trans (hb3.mono HW2.out.size))
          have HB3 := Lib.hid (HB2.out.trans (hb3.mono HB2.out.size))
          clear hb3 y3 y4 z5 z6 z7 z8 z9 v5 v6 v7 v8 v9
          go_wp2_with fail
          go_ret3
          exact ⟨by rw [HX.out, HCV.out]; rfl, HB3.out⟩
        | some y =>
          rw [hy, show evV (some y) = .tuple #[.int .i64 y, .slice none 0 0, .int .i64 0] from rfl] at CB
          have HY := Lib.hid hy
          have CD3 := Lib.hid (CD2.out y)
          clear hy CD2
          cases hd : apO o x y with
          | none =>
            rw [hd, show doV none = .tuple #[.int .i64 0, .int .i64 32] from rfl] at CD3
            have HD := Lib.hid hd
            clear hd
            go_enter Tryd.func9, Tryd.ntmps9
            go_wp2_with fail
            rw [← hW1]
            clear hW1
            refine (CA.out _ HB1.out).mono ?_
            rintro e w2 ⟨rfl, hb2⟩
            obtain ⟨⟨y3, y4⟩, z5, z6, z7, z8, z9⟩ := HC.out w2 hb2
            have HB2 := Lib.hid (HB1.out.trans (hb2.mono HB1.out.size))
            have HW2 := Lib.hid hb2
            clear hb2 c0 c1 c2 c3 c4 c5 c6 c7 c8 c9
            go_wp2_with fail
            refine (CB.out _ HB2.out).mono ?_
            rintro e w3 ⟨rfl, hb3⟩
            obtain ⟨⟨x3, x4⟩, v5, v6, v7, v8, v9⟩ := HC.out w3 (HW2.out.trans (hb3.mono HW2.out.size))
            have HB3 := Lib.hid (HB2.out.trans (hb3.mono HB2.out.size))
            clear hb3 y3 y4 z5 z6 z7 z8 z9 v5 v6 v7 v8 v9
            go_wp2_with fail
            refine (CD3.out _).mono ?_
            rintro e w4 ⟨rfl, rfl⟩
            go_wp2_with fail
            go_ret3
            exact ⟨by rw [HX.out, HCV.out]; simp [HD.out, evV], HB3.out⟩
          | some v =>
            rw [hd, show doV (some v) = .tuple #[.int .i64 v, .int .i64 0] from rfl] at CD3
            have HD := Lib.hid hd
            clear hd
            go_enter Tryd.func9, Tryd.ntmps9
            go_wp2_with fail
            rw [← hW1]
            clear hW1
            refine (CA.out _ HB1.out).mono ?_
            rintro e w2 ⟨rfl, hb2⟩
            obtain ⟨⟨y3, y4⟩, z5, z6, z7, z8, z9⟩ := HC.out w2 hb2
            have HB2 := Lib.hid (HB1.out.trans (hb2.mono HB1.out.size))
            have HW2 := Lib.hid hb2
            clear hb2 c0 c1 c2 c3 c4 c5 c6 c7 c8 c9
            go_wp2_with fail
            refine (CB.out _ HB2.out).mono ?_
            rintro e w3 ⟨rfl, hb3⟩
            obtain ⟨⟨x3, x4⟩, v5, v6, v7, v8, v9⟩ := HC.out w3 (HW2.out.trans (hb3.mono HW2.out.size))
            have HB3 := Lib.hid (HB2.out.trans (hb3.mono HB2.out.size))
            clear hb3 y3 y4 z5 z6 z7 z8 z9 v5 v6 v7 v8 v9
            go_wp2_with fail
            refine (CD3.out _).mono ?_
            rintro e w4 ⟨rfl, rfl⟩
            go_wp2_with fail
            go_ret3
            exact ⟨by rw [HX.out, HCV.out]; simp [HD.out, evV], HB3.out⟩
theorem ev_any : ∀ t : ET, EvOK t
  | .num n => ev_num n
  | .join o a b => ev_join o a b (ev_any a) (ev_any b)
end Go.Proofs.YtpgneaekflhgnaaDoor
