/-
  TreeFinds: the plain law, and the walk.
-/
import Derived.Test.YtdelgbkllnccoaaDoorT13
import Derived.Test.YtdelgbkllnccoaaDoorT19
namespace Go.Proofs.YtdelgbkllnccoaaDoor
open Go.RowKit

section
variable {l : List It}
theorem ok_find (h : okTo l l.length) {k : Nat} {x : It} (hx : l[k]? = some x) : findI l (L x.p) = some k :=
  findI_at hx rfl fun j hj y hy => ok_ne h (show j ≠ k by omega) (List.getElem?_eq_some_iff.1 hy).1 (List.getElem?_eq_some_iff.1 hx).1 hy hx
theorem findI_take {k j : Nat} {t : List UInt8} (h : findI (l.take k) t = some j) : findI l t = some j := by
  obtain ⟨x, hx, hp, hno⟩ := findI_some h
  have hj := (List.getElem?_eq_some_iff.1 hx).1
  rw [List.length_take] at hj
  rw [List.getElem?_take_of_lt (by omega)] at hx
  exact findI_at hx hp fun i hi y hy => hno i hi y (by rw [List.getElem?_take_of_lt (by omega)]; exact hy)
theorem ok_link (h : okTo l l.length) {k : Nat} {x : It} (hx : l[k]? = some x) (hs : L x.s ≠ []) : ∃ j o, findI l (L x.s) = some j ∧ l[j]? = some o ∧ contS l x = contS l o := by
  have hk := (List.getElem?_eq_some_iff.1 hx).1
  have h0 := h k hk
  rw [itE_at hx] at h0
  unfold nextE at h0
  rw [if_neg (by rw [ok_alone h hk hx]; simp)] at h0
  have h1 : linkE (l.take k) x = 0 := by
    split at h0
    · cases h0
    · unfold upE at h0
      split at h0
      · exact h0
      · split at h0
        · split at h0
          · cases h0
          · exact h0
        · cases h0
  rw [linkE, if_neg hs] at h1
  cases hf : findI (l.take k) (L x.s) with
  | none => rw [findV_no hf] at h1; cases h1
  | some j =>
    obtain ⟨o, ho, _⟩ := findI_some hf
    have hj := (List.getElem?_eq_some_iff.1 ho).1
    rw [List.length_take] at hj
    rw [findI_at2 hf ho] at h1
    rw [List.getElem?_take_of_lt (by omega)] at ho
    have hos : L o.s = [] := by
      by_cases e : L o.s = []
      · exact e
      · simp only [] at h1
        rw [if_pos (.inr (.inl e))] at h1; cases h1
    refine ⟨j, o, findI_take hf, ho, ?_⟩
    rw [contS, if_neg hs, findI_at2 (findI_take hf) ho, contS, if_pos hos]
theorem ok_part (h : okTo l l.length) : PartP l l := by
  have hv : ∀ (k : Nat) (x : It), l[k]? = some x → findV l (L x.p) = some x := fun k x hx => findI_at2 (ok_find h hx) hx
  refine ⟨fun i x hx => ⟨x, hv i x hx, rfl, rfl⟩, fun i j x y hx hy o o' h1 h2 => ?_⟩
  rw [hv i x hx] at h1
  rw [hv j y hy] at h2
  cases h1; cases h2; rfl
theorem less_lt {k : Nat} {x : It} (hx : l[k]? = some x) : (lessL l x.p).length < l.length := by
  have h1 := List.length_filter_le (fun y => !uB y x.p) l
  rcases Nat.lt_or_ge (lessL l x.p).length l.length with h | h
  · exact h
  · have e : l.filter (fun y => !uB y x.p) = l := by
      have h2 : (l.filter (fun y => !uB y x.p)).length = l.length := Nat.le_antisymm h1 h
      exact List.filter_sublist.eq_of_length h2
    have hm := List.mem_of_getElem? hx
    have := List.filter_eq_self.1 e x hm
    simp [uB] at this
theorem plain_first {s : ByteArray} (h : plainB s = true) : L s ≠ [] ∧ (L s).getD 0 0 ≠ 47 := by
  obtain ⟨hn, _⟩ := plainB_names.1 h
  refine ⟨(namesL_facts hn).1, fun e => ?_⟩
  cases hl : L s with
  | nil => exact (namesL_facts hn).1 hl
  | cons c t =>
    rw [hl] at e hn
    have hc : c = 47 := e
    have := hn [] (by rw [hc, sp, if_pos rfl]; simp)
    exact absurd this (by decide)
theorem less_all (h : okTo l l.length) : lessL l ⟨#[]⟩ = l := by
  refine List.filter_eq_self.2 fun x hx => ?_
  obtain ⟨k, hk, e⟩ := List.getElem_of_mem hx
  have ha := ok_alone h hk (List.getElem?_eq_getElem hk)
  rw [e] at ha
  have hp : plainB x.p = true := by
    cases hp : plainB x.p with
    | true => rfl
    | false => rw [aloneE, if_pos hp] at ha; cases ha
  obtain ⟨h1, h2⟩ := plain_first hp
  have e1 : (x.p.toList == (⟨#[]⟩ : ByteArray).toList) = false := ne_L h1
  rw [uB, e1, underB]
  have e2 : ((L x.p).getD (L (⟨#[]⟩ : ByteArray)).length 0 == 47) = false := by simpa using h2
  rw [e2]; simp
theorem chk_ok {r : Int} {i : Nat} (h : Chk l r i) (hr : r = 0) : okTo l l.length := by
  rcases h with ⟨_, h2, _⟩ | ⟨_, h2, _⟩ | ⟨_, _, _, h2⟩
  · omega
  · exact h2
  · exact absurd hr h2
end

set_option maxHeartbeats 2000000 in
set_option maxRecDepth 100000 in
theorem finds_any (l : List It) (v : Value) (w : World) (hv : Held w) (hl : Tr w w.heap.size v l) (hz : ∀ x ∈ l, x.p.size ≤ 140737488355327 ∧ x.d.size ≤ 140737488355327 ∧ x.s.size ≤ 140737488355327) :
    Calls Tryd.prog 5 #[v] w fun e w' => e = .returned (.bool true) ∧ Below w.heap.size w w' := by
  obtain ⟨a, cap, rfl, hm⟩ := tr_shape hl
  have HL := Lib.hid hl
  have C0 := Lib.hid (anchor_any w hv)
  have CS : Hid (∀ W, Below w.heap.size w W → Calls Tryd.prog 7 #[.slice a l.length cap] W fun e w' => e = .returned (.bool (shortB l)) ∧ Below W.heap.size W w') := Lib.hid fun W hW => shortL_any l _ W ((hl.below hW).mono hW.size) hz
  clear hl hv hz
  cases hsh : shortB l with
  | false =>
    rw [hsh] at CS
    clear hsh
    go_enter Tryd.func5, Tryd.ntmps5
    go_wp2_with fail
    refine C0.out.mono ?_
    rintro e w1 ⟨rfl, hb1⟩
    have HB1 := Lib.hid hb1
    clear hb1
    go_wp2_with fail
    refine (CS.out _ HB1.out).mono ?_
    rintro e w2 ⟨rfl, hb2⟩
    have HB2 : Hid (Below w.heap.size w w2) := Lib.hid (HB1.out.trans (hb2.mono HB1.out.size))
    clear hb2
    go_wp2
    go_ret
    exact ⟨rfl, HB2.out⟩
  | true =>
    rw [hsh] at CS
    have hsh2 := hsh
    rw [shortB, Bool.and_eq_true, decide_eq_true_eq, decide_eq_true_eq] at hsh2
    obtain ⟨h20, h30⟩ := hsh2
    clear hsh
    have HZ : Hid (∀ x ∈ l, x.p.size ≤ 20000 ∧ x.d.size ≤ 20000 ∧ x.s.size ≤ 20000) := Lib.hid fun x hx => by
      have h1 := wt_le hx
      have h2 : wt x = x.p.size + x.d.size + x.s.size := rfl
      omega
    have HTR : Hid (∀ W, Below w.heap.size w W → Tr W W.heap.size (.slice a l.length cap) l) := Lib.hid fun W hW => (HL.out.below hW).mono hW.size
    have H30 := Lib.hid h30
    obtain ⟨n, hn⟩ : ∃ n, n = l.length := ⟨_, rfl⟩
    have HN := Lib.hid hn
    have hn30 : n ≤ 30 := by omega
    have CR : Hid (∀ W, Below w.heap.size w W → Calls Tryd.prog 22 #[.slice a n cap] W fun e w' => ∃ (r : Int) (i : Nat), Chk l r i ∧ e = .returned (.bool (r == 0)) ∧ Below W.heap.size W w') := Lib.hid fun W hW => by rw [hn]; exact rightL_any l _ W (HTR.out W hW) h30 HZ.out
    have CF : Hid (∀ (W : World) (s : ByteArray), Below w.heap.size w W → Calls Tryd.prog 11 #[.slice a n cap, .string s] W fun e w' => e = .returned (.int .i64 (findZ l (L s))) ∧ Below W.heap.size W w') := Lib.hid fun W s hW => by rw [hn]; exact find_any l _ s W (HTR.out W hW)
    have CT : Hid (∀ W, Below w.heap.size w W → Calls Tryd.prog 16 #[.slice a n cap] W fun e w' => ∃ v', e = .returned v' ∧ OwnS w' W.heap.size v' (topsL l) ∧ Below W.heap.size W w') := Lib.hid fun W hW => by rw [hn]; exact tops_any l _ W (HTR.out W hW) h30
    have CT2 : Hid (∀ (W : World) (m : Nat) (y : ByteArray), Below w.heap.size w W → (topsL l)[m]? = some y → Calls Tryd.prog 16 #[.slice a n cap] W fun e w' => ∃ g cap, e = .returned (.slice (some ⟨g, 0, none⟩) (topsL l).length cap) ∧ w'.cell? ⟨g, m, none⟩ = some (.string y) ∧ Below W.heap.size W w') := Lib.hid fun W m y hW hm => by rw [hn]; exact tops_some (HTR.out W hW) h30 hm
    have CK : Hid (∀ (W : World) (k : Nat) (x : It), Below w.heap.size w W → l[k]? = some x → Calls Tryd.prog 13 #[.slice a n cap, .int .i64 (k : Int)] W fun e w' => e = .returned (.string (contS l x)) ∧ Below W.heap.size W w') := Lib.hid fun W k x hW hx => by rw [hn]; exact content_any l _ k x W (HTR.out W hW) hx
    have CLS : Hid (∀ (W : World) (s : ByteArray), Below w.heap.size w W → Calls Tryd.prog 20 #[.slice a n cap, .string s] W fun e w' => ∃ v', e = .returned v' ∧ w'.ownsRow W.heap.size 44 5 v' (lessL l s).length ((lessL l s).flatMap itC) ∧ Below W.heap.size W w') := Lib.hid fun W s hW => by rw [hn]; exact less_any l _ s W (HTR.out W hW) h30
    have CSame : Hid (∀ (W : World), Below w.heap.size w W → Calls Tryd.prog 21 #[.slice a n cap, .slice a n cap, .bool true] W fun e w' => e = .returned (.bool true) ∧ Below W.heap.size W w') := Lib.hid fun W hW => by
      rw [hn]
      exact (Same_any true l l _ _ W (HTR.out W hW) (HTR.out W hW)).mono fun e w' ⟨r, h1, h2, h3⟩ => ⟨by rw [h1, h2.2 (same_self _ _)], h3⟩
    have CP : Hid (PartP l l → ∀ (W : World), Below w.heap.size w W → Calls Tryd.prog 23 #[.slice a n cap, .slice a n cap] W fun e w' => e = .returned (.bool true) ∧ Below W.heap.size W w') := Lib.hid fun hp W hW => by
      rw [hn]
      exact (part_any l l _ _ W (HTR.out W hW) (HTR.out W hW) h30).mono fun e w' ⟨r, h1, h2, h3⟩ => ⟨by rw [h1, h2.2 hp], h3⟩
    rw [← hn] at hm CS
    rw [← hn]
    clear hn h30 h20
    go_enter Tryd.func5, Tryd.ntmps5
    go_wp2_with fail
    refine C0.out.mono ?_
    rintro e w1 ⟨rfl, hb1⟩
    have HB1 := Lib.hid hb1
    clear hb1
    go_wp2_with fail
    refine (CS.out _ HB1.out).mono ?_
    rintro e w2 ⟨rfl, hb2⟩
    have HB2 : Hid (Below w.heap.size w w2) := Lib.hid (HB1.out.trans (hb2.mono HB1.out.size))
    clear hb2
    go_wp2_with fail
    refine (CR.out _ HB2.out).mono ?_
    rintro e w3 ⟨r, i, hck, rfl, hb3⟩
    have HB3 : Hid (Below w.heap.size w w3) := Lib.hid (HB2.out.trans (hb3.mono HB2.out.size))
    clear hb3
    by_cases hr0 : r = 0
    · have HOK := Lib.hid (chk_ok hck hr0)
      subst hr0
      clear hck
      go_wp2_with fail
      go_loopw [3, 18] (fun t i wr => ∃ k : Nat, k ≤ n ∧ i = .int .i64 k ∧ t = .int .i64 (((topsL (l.take k)).length : Nat) : Int) ∧ Below w3.heap.size w3 wr) (fun _ i _ => n - (intOf i).toNat)
      case atStart => exact ⟨0, Nat.zero_le _, rfl, rfl, Below.refl _ _⟩
      case round =>
        obtain ⟨k, hk, rfl, rfl, hb⟩ := hrel
        obtain ⟨wo, rfl⟩ : ∃ wo : World, wo = wr := ⟨_, rfl⟩
        have hbo : Below w.heap.size w wo := HB3.out.trans (hb.mono HB3.out.size)
        by_cases hlt : k < n
        · obtain ⟨x, hx⟩ : ∃ x, l[k]? = some x := ⟨_, List.getElem?_eq_getElem (by rw [← HN.out]; exact hlt)⟩
          obtain ⟨b1, o1, i1, hbb1, c1⟩ := it_at (HTR.out _ hbo) 23 44 Tryd.underlying23 (by kernel_rfl) hx (k : Int) rfl
          obtain ⟨c2, c3, c4, c5, c6⟩ := c1
          rw [← HN.out] at i1
          have hsn := tops_snoc hx
          have htl := tops_len l k
          have hta := fun h => tops_at hx h
          have hll := less_lt hx
          obtain ⟨T, hT⟩ : ∃ T, T = (topsL (l.take k)).length := ⟨_, rfl⟩
          rw [← hT] at htl hta ⊢
          obtain ⟨NL, hNL⟩ : ∃ NL, NL = (lessL l x.p).length := ⟨_, rfl⟩
          rw [← hNL, ← HN.out] at hll
          have HNL := Lib.hid hNL
          have HHT := Lib.hid hT
          have HSN := Lib.hid hsn
          have HBo := Lib.hid hbo
          have HB := Lib.hid hb
          have CF1 : Hid (∀ W, Below wo.heap.size wo W → Calls Tryd.prog 11 #[.slice a n cap, .string x.p] W fun e w' => e = .returned (.int .i64 (k : Int)) ∧ Below W.heap.size W w') := Lib.hid fun W hW => by
            have := CF.out W x.p (hbo.trans (hW.mono hbo.size))
            rw [findZ_some (ok_find HOK.out hx)] at this
            exact this
          have CL1 : Hid (∀ W, Below wo.heap.size wo W → Calls Tryd.prog 20 #[.slice a n cap, .string x.p] W fun e w' => ∃ q c, e = .returned (.slice q NL c) ∧ Below W.heap.size W w') := Lib.hid fun W hW => by
            refine (CLS.out W x.p (hbo.trans (hW.mono hbo.size))).mono ?_
            rintro e w' ⟨v', rfl, ho, hb'⟩
            obtain ⟨q, c, rfl⟩ := own_shape ho
            exact ⟨q, c, by rw [hNL], hb'⟩
          have CSL : Hid (∀ W, Calls Tryd.prog 15 #[.string x.p] W fun e w' => e = .returned (.bool (slB (L x.p))) ∧ W = w') := Lib.hid fun W => (slashless_any x.p W (by have := (HZ.out x (List.mem_of_getElem? hx)).1; omega)).mono fun e w' h => ⟨h.1, h.2.symm⟩
          -- behind the test of the contents: world w9, its p in e0
          by_cases hs0 : L x.s = []
          · have s0 := nil_empty hs0
            obtain ⟨p, kk, m, d, s'⟩ := x
            simp only [] at c2 c3 c4 c5 c6 hta CF1 CL1 CSL s0 HSN
            clear hx hsn hbo hb hT hNL hs0
            cases hsl : slB (L p) with
            | false =>
              rw [hsl] at CSL
              have HSN2 : Hid (topsL (l.take (k + 1)) = topsL (l.take k)) := Lib.hid (by rw [HSN.out, if_neg (by rw [hsl]; decide)])
              clear hta hsl
              go_wp2_with fail
              refine (CF1.out _ (by go_grown)).mono ?_
              rintro e w8 ⟨rfl, hb8⟩
              have hs8 : wo.heap.size < w8.heap.size := by have := hb8.size; simp at this; omega
              have e0 : w8.cell? ⟨wo.heap.size, 0, none⟩ = some (.string _) := (hb8.cell (by simp)).trans (by simp; rfl)
              have e4 : w8.cell? ⟨wo.heap.size, 4, none⟩ = some (.string _) := (hb8.cell (by simp)).trans (by simp; rfl)
              have HB8 : Hid (Below wo.heap.size wo w8) := Lib.hid ((Below.alloc (Below.refl _ _) (Nat.le_refl _) _).trans (hb8.mono (by simp)))
              clear hb8 c2 c3 c4 c5 c6
              go_wp2_with fail
              go_quiet (fail)
              obtain ⟨w9, hw9⟩ : ∃ w9, w9 = w8.drewN nq := ⟨_, rfl⟩
              rw [← hw9]
              have hs9 : wo.heap.size < w9.heap.size := by rw [hw9]; exact hs8
              replace e0 : w9.cell? ⟨wo.heap.size, 0, none⟩ = some (.string p) := by rw [hw9]; exact e0
              have HB9 : Hid (Below wo.heap.size wo w9) := Lib.hid (by rw [hw9]; exact below_drewN HB8.out nq)
              clear hw9 e4
              go_wp2_with fail
              refine (CSL.out _).mono ?_
              rintro e wx ⟨rfl, rfl⟩
              go_wp2_with fail
              refine (CL1.out _ HB9.out).mono ?_
              rintro e w11 ⟨q, c, rfl, hb11⟩
              have HB11 : Hid (Below wo.heap.size wo w11) := Lib.hid (HB9.out.trans (hb11.mono HB9.out.size))
              clear hb11
              go_wp2_with fail
              go_roundw
              case rel => exact ⟨k + 1, by omega, by go_num, by rw [HSN2.out, ← HHT.out], HB.out.trans (HB11.out.mono HB.out.size)⟩
              case measure => simp [intOf]; omega
            | true =>
              rw [hsl] at CSL
              have hta2 := hta hsl
              have hTN := (List.getElem?_eq_some_iff.1 hta2).1
              have HSN2 : Hid ((topsL (l.take (k + 1))).length = T + 1) := Lib.hid (by rw [HSN.out, if_pos hsl, List.length_append, ← HHT.out]; rfl)
              obtain ⟨NT, hNT⟩ : ∃ NT, NT = (topsL l).length := ⟨_, rfl⟩
              rw [← hNT] at hTN
              have CT3 : Hid (∀ (W V : World), Below wo.heap.size wo W → wo.heap.size < W.heap.size → W.cell? ⟨wo.heap.size, 0, none⟩ = some (.string p) → Below W.heap.size W V → Calls Tryd.prog 16 #[.slice a n cap] V fun e w' => ∃ g cap, e = .returned (.slice (some ⟨g, 0, none⟩) NT cap) ∧ w'.cell? ⟨g, T, none⟩ = some (.string p) ∧ w'.cell? ⟨wo.heap.size, 0, none⟩ = some (.string p) ∧ Below W.heap.size W w') := Lib.hid fun W V hW hz hc hV => by
                refine (CT2.out V T p (HBo.out.trans ((hW.trans (hV.mono hW.size)).mono HBo.out.size)) hta2).mono ?_
                rintro e w' ⟨g, cap, rfl, h1, h2⟩
                exact ⟨g, cap, by rw [hNT], h1, ((hV.trans (h2.mono hV.size)).cell hz).trans hc, hV.trans (h2.mono hV.size)⟩
              have hix := fun g cap w' => idx_str NT T hTN g cap w'
              clear hta hta2 hsl hNT
              go_wp2_with fail
              refine (CF1.out _ (by go_grown)).mono ?_
              rintro e w8 ⟨rfl, hb8⟩
              have hs8 : wo.heap.size < w8.heap.size := by have := hb8.size; simp at this; omega
              have e0 : w8.cell? ⟨wo.heap.size, 0, none⟩ = some (.string _) := (hb8.cell (by simp)).trans (by simp; rfl)
              have e4 : w8.cell? ⟨wo.heap.size, 4, none⟩ = some (.string _) := (hb8.cell (by simp)).trans (by simp; rfl)
              have HB8 : Hid (Below wo.heap.size wo w8) := Lib.hid ((Below.alloc (Below.refl _ _) (Nat.le_refl _) _).trans (hb8.mono (by simp)))
              clear hb8 c2 c3 c4 c5 c6
              go_wp2_with fail
              go_quiet (fail)
              obtain ⟨w9, hw9⟩ : ∃ w9, w9 = w8.drewN nq := ⟨_, rfl⟩
              rw [← hw9]
              have hs9 : wo.heap.size < w9.heap.size := by rw [hw9]; exact hs8
              replace e0 : w9.cell? ⟨wo.heap.size, 0, none⟩ = some (.string p) := by rw [hw9]; exact e0
              have HB9 : Hid (Below wo.heap.size wo w9) := Lib.hid (by rw [hw9]; exact below_drewN HB8.out nq)
              clear hw9 e4
              go_wp2_with fail
              refine (CSL.out _).mono ?_
              rintro e wx ⟨rfl, rfl⟩
              go_wp2_with fail
              have CT4 := Lib.hid (fun V h => CT3.out w9 V HB9.out hs9 e0 h)
              go_region_with ((go_at_call 16; refine (CT4.out _ (by first | exact Below.refl _ _ | exact Below.drew (Below.refl _ _))).mono ?_; rintro e w10 ⟨g, gcap, rfl, hc10, hp10, hb10⟩))
              all_goals
                have HB10 : Hid (Below wo.heap.size wo w10) := Lib.hid (HB9.out.trans (hb10.mono HB9.out.size))
                go_wp2_with fail
                refine (CL1.out _ (by first | exact HB10.out | exact Below.drew HB10.out)).mono ?_
                rintro e w11 ⟨q, c, rfl, hb11⟩
                have HB11 : Hid (Below wo.heap.size wo w11) := Lib.hid (HB10.out.trans (Below.trans (by first | exact Below.refl _ _ | exact Below.drew (Below.refl _ _)) (hb11.mono (by first | exact HB10.out.size | exact HB10.out.size))))
                clear hb11
                go_wp2_with fail
                go_roundw
                case rel => exact ⟨k + 1, by omega, by go_num, by rw [HSN2.out]; go_num, HB.out.trans (HB11.out.mono HB.out.size)⟩
                case measure => simp [intOf]; omega
          · have s0 := ne_empty hs0
            obtain ⟨jo, o, hjo, ho, hco⟩ := ok_link HOK.out hx hs0
            have FF := Lib.hid (fun W (hW : Below wo.heap.size wo W) => CF.out W x.s (hbo.trans (hW.mono hbo.size)))
            rw [findZ_some hjo] at FF
            have FK1 := Lib.hid (fun W (hW : Below wo.heap.size wo W) => CK.out W k x (hbo.trans (hW.mono hbo.size)) hx)
            have FK2 := Lib.hid (fun W (hW : Below wo.heap.size wo W) => CK.out W jo o (hbo.trans (hW.mono hbo.size)) ho)
            rw [hco] at FK1
            obtain ⟨cs, hcs⟩ : ∃ cs, cs = contS l o := ⟨_, rfl⟩
            rw [← hcs] at FK1 FK2
            obtain ⟨p, kk, m, d, s'⟩ := x
            simp only [] at c2 c3 c4 c5 c6 hta CF1 CL1 CSL s0 HSN FF
            clear hx hsn hbo hb hT hNL hs0 hjo ho hco hcs
            cases hsl : slB (L p) with
            | false =>
              rw [hsl] at CSL
              have HSN2 : Hid (topsL (l.take (k + 1)) = topsL (l.take k)) := Lib.hid (by rw [HSN.out, if_neg (by rw [hsl]; decide)])
              clear hta hsl
              go_wp2_with fail
              refine (CF1.out _ (by go_grown)).mono ?_
              rintro e w8 ⟨rfl, hb8⟩
              have hs8 : wo.heap.size < w8.heap.size := by have := hb8.size; simp at this; omega
              have e0 : w8.cell? ⟨wo.heap.size, 0, none⟩ = some (.string _) := (hb8.cell (by simp)).trans (by simp; rfl)
              have e4 : w8.cell? ⟨wo.heap.size, 4, none⟩ = some (.string _) := (hb8.cell (by simp)).trans (by simp; rfl)
              have HB8 : Hid (Below wo.heap.size wo w8) := Lib.hid ((Below.alloc (Below.refl _ _) (Nat.le_refl _) _).trans (hb8.mono (by simp)))
              clear hb8 c2 c3 c4 c5 c6
              go_wp2_with fail
              have CQ1 : Hid (∀ d os, Calls Tryd.prog 13 #[.slice a n cap, .int .i64 (k : Int)] (Sort.grow (redrawn w8 d) os) fun e w'' => e = .returned (.string cs) ∧ ∃ q : Regrown, w'' = Sort.grow (redrawn w8 q.d) q.os) := Lib.hid fun d os => Calls.regrown_of (FK1.out _ (HB8.out.trans ((below_regrown w8 d os).mono HB8.out.size)))
              have CQ2 : Hid (∀ d os, Calls Tryd.prog 13 #[.slice a n cap, .int .i64 (jo : Int)] (Sort.grow (redrawn w8 d) os) fun e w'' => e = .returned (.string cs) ∧ ∃ q : Regrown, w'' = Sort.grow (redrawn w8 q.d) q.os) := Lib.hid fun d os => Calls.regrown_of (FK2.out _ (HB8.out.trans ((below_regrown w8 d os).mono HB8.out.size)))
              have CQ3 : Hid (∀ d os, Calls Tryd.prog 11 #[.slice a n cap, .string s'] (Sort.grow (redrawn w8 d) os) fun e w'' => e = .returned (.int .i64 (jo : Int)) ∧ ∃ q : Regrown, w'' = Sort.grow (redrawn w8 q.d) q.os) := Lib.hid fun d os => Calls.regrown_of (FF.out _ (HB8.out.trans ((below_regrown w8 d os).mono HB8.out.size)))
              have r4 : ∀ d os, (Sort.grow (redrawn w8 d) os).cell? ⟨wo.heap.size, 4, none⟩ = _ := fun d os => cell_regrown e4 d os
              refine wp_region_quiet_below (by kernel_rfl) (by kernel_rfl) ?_
              repeat (go_big_quiet_step (with_reducible first | exact CQ1.out _ _ | exact CQ2.out _ _ | exact CQ3.out _ _))
              refine wpQuiet_nil ?_
              intro _ hw'
              obtain ⟨⟨dq, osq⟩, hw''⟩ := hw'
              subst hw''
              have hbq := below_regrown w8 dq osq
              obtain ⟨w9, hw9⟩ : ∃ w9, w9 = Sort.grow (redrawn w8 dq) osq := ⟨_, rfl⟩
              rw [← hw9] at hbq ⊢
              have hs9 : wo.heap.size < w9.heap.size := Nat.lt_of_lt_of_le hs8 hbq.size
              replace e0 : w9.cell? ⟨wo.heap.size, 0, none⟩ = some (.string p) := (hbq.cell hs8).trans e0
              have HB9 : Hid (Below wo.heap.size wo w9) := Lib.hid (HB8.out.trans (hbq.mono HB8.out.size))
              clear hw9 e4 r4 hbq CQ1 CQ2 CQ3
              go_wp2_with fail
              refine (CSL.out _).mono ?_
              rintro e wx ⟨rfl, rfl⟩
              go_wp2_with fail
              refine (CL1.out _ HB9.out).mono ?_
              rintro e w11 ⟨q, c, rfl, hb11⟩
              have HB11 : Hid (Below wo.heap.size wo w11) := Lib.hid (HB9.out.trans (hb11.mono HB9.out.size))
              clear hb11
              go_wp2_with fail
              go_roundw
              case rel => exact ⟨k + 1, by omega, by go_num, by rw [HSN2.out, ← HHT.out], HB.out.trans (HB11.out.mono HB.out.size)⟩
              case measure => simp [intOf]; omega
            | true =>
              rw [hsl] at CSL
              have hta2 := hta hsl
              have hTN := (List.getElem?_eq_some_iff.1 hta2).1
              have HSN2 : Hid ((topsL (l.take (k + 1))).length = T + 1) := Lib.hid (by rw [HSN.out, if_pos hsl, List.length_append, ← HHT.out]; rfl)
              obtain ⟨NT, hNT⟩ : ∃ NT, NT = (topsL l).length := ⟨_, rfl⟩
              rw [← hNT] at hTN
              have CT3 : Hid (∀ (W V : World), Below wo.heap.size wo W → wo.heap.size < W.heap.size → W.cell? ⟨wo.heap.size, 0, none⟩ = some (.string p) → Below W.heap.size W V → Calls Tryd.prog 16 #[.slice a n cap] V fun e w' => ∃ g cap, e = .returned (.slice (some ⟨g, 0, none⟩) NT cap) ∧ w'.cell? ⟨g, T, none⟩ = some (.string p) ∧ w'.cell? ⟨wo.heap.size, 0, none⟩ = some (.string p) ∧ Below W.heap.size W w') := Lib.hid fun W V hW hz hc hV => by
                refine (CT2.out V T p (HBo.out.trans ((hW.trans (hV.mono hW.size)).mono HBo.out.size)) hta2).mono ?_
                rintro e w' ⟨g, cap, rfl, h1, h2⟩
                exact ⟨g, cap, by rw [hNT], h1, ((hV.trans (h2.mono hV.size)).cell hz).trans hc, hV.trans (h2.mono hV.size)⟩
              have hix := fun g cap w' => idx_str NT T hTN g cap w'
              clear hta hta2 hsl hNT
              go_wp2_with fail
              refine (CF1.out _ (by go_grown)).mono ?_
              rintro e w8 ⟨rfl, hb8⟩
              have hs8 : wo.heap.size < w8.heap.size := by have := hb8.size; simp at this; omega
              have e0 : w8.cell? ⟨wo.heap.size, 0, none⟩ = some (.string _) := (hb8.cell (by simp)).trans (by simp; rfl)
              have e4 : w8.cell? ⟨wo.heap.size, 4, none⟩ = some (.string _) := (hb8.cell (by simp)).trans (by simp; rfl)
              have HB8 : Hid (Below wo.heap.size wo w8) := Lib.hid ((Below.alloc (Below.refl _ _) (Nat.le_refl _) _).trans (hb8.mono (by simp)))
              clear hb8 c2 c3 c4 c5 c6
              go_wp2_with fail
              have CQ1 : Hid (∀ d os, Calls Tryd.prog 13 #[.slice a n cap, .int .i64 (k : Int)] (Sort.grow (redrawn w8 d) os) fun e w'' => e = .returned (.string cs) ∧ ∃ q : Regrown, w'' = Sort.grow (redrawn w8 q.d) q.os) := Lib.hid fun d os => Calls.regrown_of (FK1.out _ (HB8.out.trans ((below_regrown w8 d os).mono HB8.out.size)))
              have CQ2 : Hid (∀ d os, Calls Tryd.prog 13 #[.slice a n cap, .int .i64 (jo : Int)] (Sort.grow (redrawn w8 d) os) fun e w'' => e = .returned (.string cs) ∧ ∃ q : Regrown, w'' = Sort.grow (redrawn w8 q.d) q.os) := Lib.hid fun d os => Calls.regrown_of (FK2.out _ (HB8.out.trans ((below_regrown w8 d os).mono HB8.out.size)))
              have CQ3 : Hid (∀ d os, Calls Tryd.prog 11 #[.slice a n cap, .string s'] (Sort.grow (redrawn w8 d) os) fun e w'' => e = .returned (.int .i64 (jo : Int)) ∧ ∃ q : Regrown, w'' = Sort.grow (redrawn w8 q.d) q.os) := Lib.hid fun d os => Calls.regrown_of (FF.out _ (HB8.out.trans ((below_regrown w8 d os).mono HB8.out.size)))
              have r4 : ∀ d os, (Sort.grow (redrawn w8 d) os).cell? ⟨wo.heap.size, 4, none⟩ = _ := fun d os => cell_regrown e4 d os
              refine wp_region_quiet_below (by kernel_rfl) (by kernel_rfl) ?_
              repeat (go_big_quiet_step (with_reducible first | exact CQ1.out _ _ | exact CQ2.out _ _ | exact CQ3.out _ _))
              refine wpQuiet_nil ?_
              intro _ hw'
              obtain ⟨⟨dq, osq⟩, hw''⟩ := hw'
              subst hw''
              have hbq := below_regrown w8 dq osq
              obtain ⟨w9, hw9⟩ : ∃ w9, w9 = Sort.grow (redrawn w8 dq) osq := ⟨_, rfl⟩
              rw [← hw9] at hbq ⊢
              have hs9 : wo.heap.size < w9.heap.size := Nat.lt_of_lt_of_le hs8 hbq.size
              replace e0 : w9.cell? ⟨wo.heap.size, 0, none⟩ = some (.string p) := (hbq.cell hs8).trans e0
              have HB9 : Hid (Below wo.heap.size wo w9) := Lib.hid (HB8.out.trans (hbq.mono HB8.out.size))
              clear hw9 e4 r4 hbq CQ1 CQ2 CQ3
              go_wp2_with fail
              refine (CSL.out _).mono ?_
              rintro e wx ⟨rfl, rfl⟩
              go_wp2_with fail
              have CT4 := Lib.hid (fun V h => CT3.out w9 V HB9.out hs9 e0 h)
              go_region_with ((go_at_call 16; refine (CT4.out _ (by first | exact Below.refl _ _ | exact Below.drew (Below.refl _ _))).mono ?_; rintro e w10 ⟨g, gcap, rfl, hc10, hp10, hb10⟩))
              all_goals
                have HB10 : Hid (Below wo.heap.size wo w10) := Lib.hid (HB9.out.trans (hb10.mono HB9.out.size))
                go_wp2_with fail
                refine (CL1.out _ (by first | exact HB10.out | exact Below.drew HB10.out)).mono ?_
                rintro e w11 ⟨q, c, rfl, hb11⟩
                have HB11 : Hid (Below wo.heap.size wo w11) := Lib.hid (HB10.out.trans (Below.trans (by first | exact Below.refl _ _ | exact Below.drew (Below.refl _ _)) (hb11.mono (by first | exact HB10.out.size | exact HB10.out.size))))
                clear hb11
                go_wp2_with fail
                go_roundw
                case rel => exact ⟨k + 1, by omega, by go_num, by rw [HSN2.out]; go_num, HB.out.trans (HB11.out.mono HB.out.size)⟩
                case measure => simp [intOf]; omega
        · obtain rfl : k = n := by omega
          have e : l.take k = l := List.take_of_length_le (by rw [← HN.out]; exact Nat.le_refl _)
          rw [e]
          obtain ⟨NT, hNT⟩ : ∃ NT, NT = (topsL l).length := ⟨_, rfl⟩
          rw [← hNT]
          have HNT := Lib.hid hNT
          have HBo := Lib.hid hbo
          have CP2 := Lib.hid (CP.out (ok_part HOK.out))
          have CL2 : Hid (∀ W, Below w.heap.size w W → Calls Tryd.prog 20 #[.slice a k cap, .string ⟨#[]⟩] W fun e w' => ∃ q c, e = .returned (.slice q k c) ∧ Below W.heap.size W w') := Lib.hid fun W hW => by
            refine (CLS.out W ⟨#[]⟩ hW).mono ?_
            rintro e w' ⟨v', rfl, ho, hb'⟩
            rw [less_all HOK.out] at ho
            obtain ⟨q, c, rfl⟩ := own_shape ho
            exact ⟨q, c, by rw [HN.out], hb'⟩
          clear hb hbo e hNT
          go_wp2_with fail
          refine (CT.out _ HBo.out).mono ?_
          rintro e w9 ⟨tv, rfl, ho, hb9⟩
          obtain ⟨ta, tc, rfl⟩ := own_shape ho
          have HB9 : Hid (Below w.heap.size w w9) := Lib.hid (HBo.out.trans (hb9.mono HBo.out.size))
          rw [← HNT.out]
          clear hb9 ho
          go_wp2_with fail
          refine (CSame.out _ HB9.out).mono ?_
          rintro e w10 ⟨rfl, hb10⟩
          have HB10 : Hid (Below w.heap.size w w10) := Lib.hid (HB9.out.trans (hb10.mono HB9.out.size))
          clear hb10
          go_wp2_with fail
          refine (CP2.out _ HB10.out).mono ?_
          rintro e w11 ⟨rfl, hb11⟩
          have HB11 : Hid (Below w.heap.size w w11) := Lib.hid (HB10.out.trans (hb11.mono HB10.out.size))
          clear hb11
          go_wp2_with fail
          refine (CL2.out _ HB11.out).mono ?_
          rintro e w12 ⟨q, c, rfl, hb12⟩
          have HB12 : Hid (Below w.heap.size w w12) := Lib.hid (HB11.out.trans (hb12.mono HB11.out.size))
          clear hb12
          go_wp2
          go_ret
          exact ⟨rfl, HB12.out⟩
    · have hrr : (r == 0) = false := by simpa using hr0
      clear hck hr0
      go_wp2
      go_ret
      exact ⟨rfl, HB3.out⟩
end Go.Proofs.YtdelgbkllnccoaaDoor
