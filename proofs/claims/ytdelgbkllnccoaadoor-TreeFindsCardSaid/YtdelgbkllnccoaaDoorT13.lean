/-
  The walk of the statement TreeChecks.
-/
import Derived.Test.YtdelgbkllnccoaaDoorT12
import Derived.Deep.RegionWith
namespace Go.Proofs.YtdelgbkllnccoaaDoor
open Go.RowKit

theorem tops_at {l : List It} {k : Nat} {x : It} (h : l[k]? = some x) (hs : slB (L x.p) = true) : (topsL l)[(topsL (l.take k)).length]? = some x.p := by
  have h1 := tops_snoc h
  rw [if_pos hs] at h1
  have h2 : topsL l = topsL (l.take (k + 1)) ++ topsL (l.drop (k + 1)) := by
    conv => lhs; rw [← List.take_append_drop (k + 1) l]
    rw [topsL, topsL, topsL, List.filter_append, List.map_append]
  rw [h2, h1, List.append_assoc, List.getElem?_append_right (Nat.le_refl _), Nat.sub_self]; rfl
theorem bytes_wts (l : List It) : bytesL l ≤ wts l := by
  induction l with
  | nil => exact Nat.le_refl _
  | cons x l ih =>
    have e1 : bytesL (x :: l) = x.d.size + bytesL l := by simp [bytesL]
    have e2 : wts (x :: l) = wt x + wts l := by simp [wts]
    have e3 : wt x = x.p.size + x.d.size + x.s.size := rfl
    omega

/-- Tops where there is one, as a region that draws its order wants it. -/
theorem tops_some {l : List It} {v : Value} {w : World} (hl : Tr w w.heap.size v l) (h30 : l.length ≤ 30) {m : Nat} {y : ByteArray} (hm : (topsL l)[m]? = some y) :
    Calls Tryd.prog 16 #[v] w fun e w' => ∃ g cap, e = .returned (.slice (some ⟨g, 0, none⟩) (topsL l).length cap) ∧ w'.cell? ⟨g, m, none⟩ = some (.string y) ∧ Below w.heap.size w w' := by
  refine (tops_any l v w hl h30).mono ?_
  rintro e w' ⟨v', rfl, ho, hb⟩
  rcases ho.form with ⟨rfl, h0⟩ | ⟨g, cap, rfl, hg, hc, hcell⟩
  · rw [h0] at hm; simp at hm
  · exact ⟨g, cap, rfl, by have := hcell m y hm; rwa [Nat.zero_add] at this, hb⟩

theorem idx_str (n T : Nat) (h : T < n) (g cap : Nat) (w : World) : (Instr.indexAt 40 (.slice (some ⟨g, 0, none⟩) n cap) (.int .i64 (T : Int))).run Tryd.prog w = .ok (.pointer (some ⟨g, T, none⟩)) w := by
  have he : Tryd.prog.elem 40 = 9 := by simp [Program.elem, Tryd.underlying40]
  rw [run_indexAt_slice _ _ _ _ _ _ _ (by rw [he]; exact Tryd.underlying40), if_pos ⟨by omega, by omega⟩, he]
  obtain ⟨i0, hi, hi1⟩ := Option.map_eq_some_iff.1 (show (Tryd.prog.info? 9).map (·.size) = some 1 by kernel_rfl)
  simp [sizeOf, typeInfo, hi, hi1, Result.andThen, addr_add]

set_option maxHeartbeats 2000000 in
set_option maxRecDepth 100000 in
theorem checks_any (l : List It) (v : Value) (s : ByteArray) (ki : Int) (w : World) (hv : Held w) (hl : Tr w w.heap.size v l) (hz : ∀ x ∈ l, x.p.size ≤ 140737488355327 ∧ x.d.size ≤ 140737488355327 ∧ x.s.size ≤ 140737488355327) (hs : s.size ≤ 9223372036854775807)
    (hki : -9223372036854775808 ≤ ki ∧ ki ≤ 9223372036854775807) :
    Calls Tryd.prog 3 #[v, .string s, .int .i64 ki] w fun e w' => e = .returned (.bool true) ∧ Below w.heap.size w w' := by
  obtain ⟨a, cap, rfl, hm⟩ := tr_shape hl
  have HV := Lib.hid hv
  have HL := Lib.hid hl
  have C0 := Lib.hid (anchor_any w hv)
  have CS : Hid (∀ W, Below w.heap.size w W → Calls Tryd.prog 7 #[.slice a l.length cap] W fun e w' => e = .returned (.bool (shortB l)) ∧ Below W.heap.size W w') := Lib.hid fun W hW => shortL_any l _ W ((hl.below hW).mono hW.size) hz
  clear hl hv hz
  cases hsh : shortB l with
  | false =>
    rw [hsh] at CS
    clear hsh
    go_enter Tryd.func3, Tryd.ntmps3
    go_wp2_with fail
    refine C0.out.mono ?_
    rintro e w1 ⟨rfl, hb1⟩
    have HB1 := Lib.hid hb1
    clear hb1
    go_wp2_with fail
    refine (CS.out _ HB1.out).mono ?_
    rintro e w2 ⟨rfl, hb2⟩
    have HB2 : Hid (Below w.heap.size w w2) := Lib.hid (HB1.out.trans (hb2.mono HB1.out.size))
    clear hb2
    go_wp2
    go_ret
    exact ⟨rfl, HB2.out⟩
  | true =>
    rw [hsh] at CS
    have hsh2 := hsh
    rw [shortB, Bool.and_eq_true, decide_eq_true_eq, decide_eq_true_eq] at hsh2
    obtain ⟨h20, h30⟩ := hsh2
    clear hsh
    by_cases h5 : (5000 : Int) < (s.size : Int)
    ·
      go_enter Tryd.func3, Tryd.ntmps3
      go_wp2_with fail
      refine C0.out.mono ?_
      rintro e w1 ⟨rfl, hb1⟩
      have HB1 := Lib.hid hb1
      clear hb1
      go_wp2_with fail
      refine (CS.out _ HB1.out).mono ?_
      rintro e w2 ⟨rfl, hb2⟩
      have HB2 : Hid (Below w.heap.size w w2) := Lib.hid (HB1.out.trans (hb2.mono HB1.out.size))
      clear hb2
      go_wp2
      go_ret
      exact ⟨rfl, HB2.out⟩
    · have HZ : Hid (∀ x ∈ l, x.p.size ≤ 20000 ∧ x.d.size ≤ 20000 ∧ x.s.size ≤ 20000) := Lib.hid fun x hx => by
        have h1 := wt_le hx
        have h2 : wt x = x.p.size + x.d.size + x.s.size := rfl
        omega
      have HTR : Hid (∀ W, Below w.heap.size w W → Tr W W.heap.size (.slice a l.length cap) l) := Lib.hid fun W hW => (HL.out.below hW).mono hW.size
      have H30 := Lib.hid h30
      have HBL : Hid (bytesL l ≤ 20000) := Lib.hid (Nat.le_trans (bytes_wts l) h20)
      obtain ⟨n, hn⟩ : ∃ n, n = l.length := ⟨_, rfl⟩
      have HN := Lib.hid hn
      have hn30 : n ≤ 30 := by omega
      have CI : Hid (∀ W, Below w.heap.size w W → Calls Tryd.prog 8 #[.slice a n cap] W fun e w' => ∃ v', e = .returned v' ∧ w'.ownsRow W.heap.size 36 5 v' l.length (l.flatMap itC) ∧ Below W.heap.size W w') := Lib.hid fun W hW => by rw [hn]; exact items_any l _ W (HTR.out W hW) h30
      have CC : Hid (∀ W, Below w.heap.size w W → Calls Tryd.prog 9 #[.slice a n cap] W (CkPost l W)) := Lib.hid fun W hW => by rw [hn]; exact check_any l _ W (HV.out.below HV.out.2 hW) (HTR.out W hW) h30 HZ.out
      have CF : Hid (∀ W, Below w.heap.size w W → Calls Tryd.prog 11 #[.slice a n cap, .string s] W fun e w' => e = .returned (.int .i64 (findZ l (L s))) ∧ Below W.heap.size W w') := Lib.hid fun W hW => by rw [hn]; exact find_any l _ s W (HTR.out W hW)
      have CB : Hid (∀ W, Below w.heap.size w W → Calls Tryd.prog 17 #[.slice a n cap] W fun e w' => e = .returned (.int .i64 ((bytesL l : Nat) : Int)) ∧ Below W.heap.size W w') := Lib.hid fun W hW => by rw [hn]; exact bytes_any l _ W (HTR.out W hW) (by have := HBL.out; omega)
      have CT : Hid (∀ W, Below w.heap.size w W → Calls Tryd.prog 16 #[.slice a n cap] W fun e w' => ∃ v', e = .returned v' ∧ OwnS w' W.heap.size v' (topsL l) ∧ Below W.heap.size W w') := Lib.hid fun W hW => by rw [hn]; exact tops_any l _ W (HTR.out W hW) h30
      have CT2 : Hid (∀ (W : World) (m : Nat) (y : ByteArray), Below w.heap.size w W → (topsL l)[m]? = some y → Calls Tryd.prog 16 #[.slice a n cap] W fun e w' => ∃ g cap, e = .returned (.slice (some ⟨g, 0, none⟩) (topsL l).length cap) ∧ w'.cell? ⟨g, m, none⟩ = some (.string y) ∧ Below W.heap.size W w') := Lib.hid fun W m y hW hm => by rw [hn]; exact tops_some (HTR.out W hW) h30 hm
      have CK : Hid (∀ (W : World) (k : Nat) (x : It), Below w.heap.size w W → l[k]? = some x → Calls Tryd.prog 13 #[.slice a n cap, .int .i64 (k : Int)] W fun e w' => e = .returned (.string (contS l x)) ∧ Below W.heap.size W w') := Lib.hid fun W k x hW hx => by rw [hn]; exact content_any l _ k x W (HTR.out W hW) hx
      rw [← hn] at hm CS
      rw [← hn]
      clear hn h30 h20
      go_enter Tryd.func3, Tryd.ntmps3
      go_wp2_with fail
      refine C0.out.mono ?_
      rintro e w1 ⟨rfl, hb1⟩
      have HB1 := Lib.hid hb1
      clear hb1
      go_wp2_with fail
      refine (CS.out _ HB1.out).mono ?_
      rintro e w2 ⟨rfl, hb2⟩
      have HB2 : Hid (Below w.heap.size w w2) := Lib.hid (HB1.out.trans (hb2.mono HB1.out.size))
      clear hb2
      go_wp2_with fail
      refine (CI.out _ HB2.out).mono ?_
      rintro e w3 ⟨iv, rfl, hown, hb3⟩
      have HB3 : Hid (Below w.heap.size w w3) := Lib.hid (HB2.out.trans (hb3.mono HB2.out.size))
      obtain ⟨ia, ic, rfl⟩ := own_shape hown
      have HO3 := Lib.hid hown
      clear hb3 hown
      go_wp2_with fail
      refine (CC.out _ HB3.out).mono ?_
      rintro e w4 ⟨r, i, hck, rfl, hb4⟩
      have HB4 : Hid (Below w.heap.size w w4) := Lib.hid (HB3.out.trans (hb4.mono HB3.out.size))
      have HO4 := Lib.hid (own_below HO3.out hb4)
      have HCK := Lib.hid hck
      clear hb4 hck
      have CRC := Lib.hid (rcheck_any l _ w4 (Sl.of_own HO4.out) H30.out HZ.out)
      rw [← HN.out] at CRC ⊢
      go_wp2_with fail
      refine CRC.out.mono ?_
      rintro e w5 ⟨r2, i2, hck2, rfl, hb5⟩
      obtain ⟨e1, e2⟩ := HCK.out.same hck2
      subst e1 e2
      have HB5 : Hid (Below w.heap.size w w5) := Lib.hid (HB4.out.trans (hb5.mono HB4.out.size))
      have HO5 := Lib.hid (own_below HO4.out hb5)
      clear hb5 hck2 CRC
      go_wp2_with fail
      refine (CF.out _ HB5.out).mono ?_
      rintro e w6 ⟨rfl, hb6⟩
      have HB6 : Hid (Below w.heap.size w w6) := Lib.hid (HB5.out.trans (hb6.mono HB5.out.size))
      have HO6 := Lib.hid (own_below HO5.out hb6)
      clear hb6
      have CRF := Lib.hid (rfind_any l _ s w6 (Sl.of_own HO6.out))
      rw [← HN.out] at CRF
      go_wp2_with fail
      refine CRF.out.mono ?_
      rintro e w7 ⟨rfl, rfl⟩
      clear CRF
      go_wp2_with fail
      go_loopw [12, 13, 57] (fun c t i wr => ∃ k : Nat, k ≤ n ∧ i = .int .i64 k ∧ c = .int .i64 ((bytesL (l.take k) : Nat) : Int) ∧ t = .int .i64 (((topsL (l.take k)).length : Nat) : Int) ∧ Below w7.heap.size w7 wr) (fun _ _ i _ => n - (intOf i).toNat)
      case atStart => exact ⟨0, Nat.zero_le _, rfl, rfl, rfl, Below.refl _ _⟩
      case round =>
        obtain ⟨k, hk, rfl, rfl, rfl, hb⟩ := hrel
        obtain ⟨wo, rfl⟩ : ∃ wo : World, wo = wr := ⟨_, rfl⟩
        have hbo : Below w.heap.size w wo := HB6.out.trans (hb.mono HB6.out.size)
        by_cases hlt : k < n
        · obtain ⟨x, hx⟩ : ∃ x, l[k]? = some x := ⟨_, List.getElem?_eq_getElem (by rw [← HN.out]; exact hlt)⟩
          have hown := own_below HO6.out hb
          obtain ⟨b1, o1, i1, hbb1, c1⟩ := it_at (Sl.of_own hown) 26 36 Tryd.underlying26 (by kernel_rfl) hx (k : Int) rfl
          obtain ⟨c2, c3, c4, c5, c6⟩ := c1
          rw [← HN.out] at i1
          have ht := bytes_take hx
          have hle : bytesL (l.take (k + 1)) ≤ 20000 := Nat.le_trans (sum_take_le _ _ _) HBL.out
          have hsn := tops_snoc hx
          have htl := tops_len l k
          have hta := fun h => tops_at hx h
          obtain ⟨X, hX⟩ : ∃ X, X = bytesL (l.take k) := ⟨_, rfl⟩
          obtain ⟨T, hT⟩ : ∃ T, T = (topsL (l.take k)).length := ⟨_, rfl⟩
          rw [← hX] at ht ⊢
          rw [← hT] at htl hta ⊢
          rw [ht] at hle
          have HT := Lib.hid ht
          have HHT := Lib.hid hT
          have HSN := Lib.hid hsn
          have HBo := Lib.hid hbo
          have HB := Lib.hid hb
          have HX := Lib.hid hx
          obtain ⟨cs, hcs⟩ : ∃ cs, cs = contS l x := ⟨_, rfl⟩
          have CK2 : Hid (∀ W, Below wo.heap.size wo W → Calls Tryd.prog 13 #[.slice a n cap, .int .i64 (k : Int)] W fun e w' => e = .returned (.string cs) ∧ Below W.heap.size W w') := Lib.hid fun W hW => by rw [hcs]; exact CK.out W k x (hbo.trans (hW.mono hbo.size)) hx
          have CRK : Hid (∀ W, Below wo.heap.size wo W → Calls Tryd.prog 14 #[.slice ia n ic, .int .i64 (k : Int)] W fun e w' => e = .returned (.string cs) ∧ W = w') := Lib.hid fun W hW => by
            rw [hcs, HN.out]
            exact (rcontent_any l _ k x W (Sl.of_own (own_below hown hW)) hx).mono fun e w' h => ⟨h.1, h.2.symm⟩
          have CSL : Hid (∀ W, Calls Tryd.prog 15 #[.string x.p] W fun e w' => e = .returned (.bool (slB (L x.p))) ∧ W = w') := Lib.hid fun W => (slashless_any x.p W (by have := (HZ.out x (List.mem_of_getElem? hx)).1; omega)).mono fun e w' h => ⟨h.1, h.2.symm⟩
          have hzx := HZ.out x (List.mem_of_getElem? hx)
          obtain ⟨p, kk, m, d, s'⟩ := x
          simp only [] at c2 c3 c4 c5 c6 hle hta hzx
          clear hx hown ht hsn hbo hb hX hT hcs
          cases hsl : slB (L p) with
          | false =>
            rw [hsl] at CSL
            have HSN2 : Hid (topsL (l.take (k + 1)) = topsL (l.take k)) := Lib.hid (by rw [HSN.out, if_neg (by rw [hsl]; decide)])
            clear hta hsl
            go_wp2_with fail
            refine (CK2.out _ (by go_grown)).mono ?_
            rintro e w8 ⟨rfl, hb8⟩
            have hs8 : wo.heap.size < w8.heap.size := by have := hb8.size; simp at this; omega
            have e0 : w8.cell? ⟨wo.heap.size, 0, none⟩ = some (.string _) := (hb8.cell (by simp)).trans (by simp; rfl)
            have HB8 : Hid (Below wo.heap.size wo w8) := Lib.hid ((Below.alloc (Below.refl _ _) (Nat.le_refl _) _).trans (hb8.mono (by simp)))
            clear hb8 c2 c3 c4 c5 c6
            go_wp2_with fail
            refine (CRK.out _ HB8.out).mono ?_
            rintro e w9 ⟨rfl, rfl⟩
            go_wp2_with fail
            refine (CSL.out _).mono ?_
            rintro e w9 ⟨rfl, rfl⟩
            go_wp2_with fail
            go_roundw
            case rel => exact ⟨k + 1, by omega, by go_num, by rw [HT.out]; go_num, by rw [HSN2.out, ← HHT.out], HB.out.trans (HB8.out.mono HB.out.size)⟩
            case measure => simp [intOf]; omega
          | true =>
            rw [hsl] at CSL
            have hta2 := hta hsl
            have hTN := (List.getElem?_eq_some_iff.1 hta2).1
            have HSN2 : Hid ((topsL (l.take (k + 1))).length = T + 1) := Lib.hid (by rw [HSN.out, if_pos hsl, List.length_append, ← HHT.out]; rfl)
            obtain ⟨NT, hNT⟩ : ∃ NT, NT = (topsL l).length := ⟨_, rfl⟩
            rw [← hNT] at hTN
            have CT3 : Hid (∀ (W V : World), Below wo.heap.size wo W → wo.heap.size < W.heap.size → W.cell? ⟨wo.heap.size, 0, none⟩ = some (.string p) → Below W.heap.size W V → Calls Tryd.prog 16 #[.slice a n cap] V fun e w' => ∃ g cap, e = .returned (.slice (some ⟨g, 0, none⟩) NT cap) ∧ w'.cell? ⟨g, T, none⟩ = some (.string p) ∧ w'.cell? ⟨wo.heap.size, 0, none⟩ = some (.string p) ∧ Below W.heap.size W w') := Lib.hid fun W V hW hz hc hV => by
              refine (CT2.out V T p (HBo.out.trans ((hW.trans (hV.mono hW.size)).mono HBo.out.size)) hta2).mono ?_
              rintro e w' ⟨g, cap, rfl, h1, h2⟩
              exact ⟨g, cap, by rw [hNT], h1, ((hV.trans (h2.mono hV.size)).cell hz).trans hc, hV.trans (h2.mono hV.size)⟩
            have hix := fun g cap w' => idx_str NT T hTN g cap w'
            have hge : decide ((NT : Int) ≤ (T : Int)) = false := by simpa using hTN
            have hge2 : decide (NT ≤ T) = false := by simpa using hTN
            clear hta hta2 hsl hNT
            go_wp2_with fail
            refine (CK2.out _ (by go_grown)).mono ?_
            rintro e w8 ⟨rfl, hb8⟩
            have hs8 : wo.heap.size < w8.heap.size := by have := hb8.size; simp at this; omega
            have e0 : w8.cell? ⟨wo.heap.size, 0, none⟩ = some (.string _) := (hb8.cell (by simp)).trans (by simp; rfl)
            have HB8 : Hid (Below wo.heap.size wo w8) := Lib.hid ((Below.alloc (Below.refl _ _) (Nat.le_refl _) _).trans (hb8.mono (by simp)))
            clear hb8 c2 c3 c4 c5 c6
            go_wp2_with fail
            refine (CRK.out _ HB8.out).mono ?_
            rintro e w9 ⟨rfl, rfl⟩
            go_wp2_with fail
            refine (CSL.out _).mono ?_
            rintro e w9 ⟨rfl, rfl⟩
            go_wp2_with fail
            have CT4 := Lib.hid (fun V h => CT3.out w8 V HB8.out hs8 e0 h)
            go_region_with ((go_at_call 16; refine (CT4.out _ (by first | exact Below.refl _ _ | exact Below.drew (Below.refl _ _) | exact hb10 | exact Below.drew hb10)).mono ?_; rintro e w10 ⟨g, gcap, rfl, hc10, hp10, hb10⟩))
            all_goals
              go_wp2_with fail
              go_roundw
              case rel => exact ⟨k + 1, by omega, by go_num, by rw [HT.out]; go_num, by rw [HSN2.out]; go_num, HB.out.trans ((HB8.out.trans ((by first | exact hb10 | exact Below.drew hb10 : Below w8.heap.size w8 _).mono HB8.out.size)).mono HB.out.size)⟩
              case measure => simp [intOf]; omega
        · obtain rfl : k = n := by omega
          have e : l.take k = l := List.take_of_length_le (by rw [← HN.out]; exact Nat.le_refl _)
          rw [e]
          obtain ⟨X, hX⟩ : ∃ X, X = bytesL l := ⟨_, rfl⟩
          obtain ⟨NT, hNT⟩ : ∃ NT, NT = (topsL l).length := ⟨_, rfl⟩
          rw [← hX] at CB
          rw [← hX, ← hNT]
          have HNT := Lib.hid hNT
          have HBo := Lib.hid hbo
          have CO : Hid (∀ W, (ki < 0 ∨ (k : Int) ≤ ki) → Calls Tryd.prog 13 #[.slice a k cap, .int .i64 ki] W fun e w' => e = .returned (.string ⟨#[]⟩) ∧ W = w') := Lib.hid fun W h => (content_out a k cap ki W hm h).mono fun e w' h => ⟨h.1, h.2.symm⟩
          clear hb hbo e hX hNT
          by_cases hk0 : ki < 0
          ·
            go_wp2_with fail
            refine (CB.out _ HBo.out).mono ?_
            rintro e w8 ⟨rfl, hb8⟩
            have HB8 : Hid (Below w.heap.size w w8) := Lib.hid (HBo.out.trans (hb8.mono HBo.out.size))
            clear hb8
            go_wp2_with fail
            refine (CT.out _ HB8.out).mono ?_
            rintro e w9 ⟨tv, rfl, ho, hb9⟩
            obtain ⟨ta, tc, rfl⟩ := own_shape ho
            have HB9 : Hid (Below w.heap.size w w9) := Lib.hid (HB8.out.trans (hb9.mono HB8.out.size))
            rw [← HNT.out]
            clear hb9 ho
            go_wp2_with fail
            refine (CO.out _ (by omega)).mono ?_
            rintro e w10 ⟨rfl, rfl⟩
            go_wp2
            go_ret
            exact ⟨rfl, HB9.out⟩
          · by_cases hk1 : ki < (k : Int)
            ·
              go_wp2_with fail
              refine (CB.out _ HBo.out).mono ?_
              rintro e w8 ⟨rfl, hb8⟩
              have HB8 : Hid (Below w.heap.size w w8) := Lib.hid (HBo.out.trans (hb8.mono HBo.out.size))
              clear hb8
              go_wp2_with fail
              refine (CT.out _ HB8.out).mono ?_
              rintro e w9 ⟨tv, rfl, ho, hb9⟩
              obtain ⟨ta, tc, rfl⟩ := own_shape ho
              have HB9 : Hid (Below w.heap.size w w9) := Lib.hid (HB8.out.trans (hb9.mono HB8.out.size))
              rw [← HNT.out]
              clear hb9 ho
              go_wp2
              go_ret
              exact ⟨rfl, HB9.out⟩
            ·
              go_wp2_with fail
              refine (CB.out _ HBo.out).mono ?_
              rintro e w8 ⟨rfl, hb8⟩
              have HB8 : Hid (Below w.heap.size w w8) := Lib.hid (HBo.out.trans (hb8.mono HBo.out.size))
              clear hb8
              go_wp2_with fail
              refine (CT.out _ HB8.out).mono ?_
              rintro e w9 ⟨tv, rfl, ho, hb9⟩
              obtain ⟨ta, tc, rfl⟩ := own_shape ho
              have HB9 : Hid (Below w.heap.size w w9) := Lib.hid (HB8.out.trans (hb9.mono HB8.out.size))
              rw [← HNT.out]
              clear hb9 ho
              go_wp2_with fail
              refine (CO.out _ (by omega)).mono ?_
              rintro e w10 ⟨rfl, rfl⟩
              go_wp2
              go_ret
              exact ⟨rfl, HB9.out⟩
end Go.Proofs.YtdelgbkllnccoaaDoor
