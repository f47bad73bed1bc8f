/-
  The walk of ArithBinds.
-/
import Derived.Test.YtpgneaekflhgnaaDoorF2
namespace Go.Proofs.YtpgneaekflhgnaaDoor
open Go.RowKit

theorem Sl.of_elems {w : World} {B n c : Nat} {a : Option Addr} {xs : List Value} (h : Elems w B a n xs) (h1 : n ≤ c) (h2 : c ≤ maxLen) : Sl w B 1 (.slice a n c) n xs := by
  obtain ⟨e1, _, e3⟩ := h
  refine ⟨by rw [e1, Nat.mul_one], a, c, rfl, h1, h2, ?_⟩
  rcases e3 with e3 | ⟨b, off, ha, hb, hc⟩
  · exact .inl e3
  · exact .inr ⟨b, off, ha, hb, fun j hj => hc j (by omega)⟩
theorem islev_neg {t : ByteArray} {r : Int} (h : IsLev t r) : r < 0 ∨ ∃ o, o < 18 ∧ L t = opB o ∧ 0 ≤ r := by
  rcases h with ⟨o, ho, h1, h2⟩ | ⟨h1, _⟩
  · exact .inr ⟨o, ho, h1, by omega⟩
  · exact .inl (by omega)
theorem itoa_num {n : Int} (h : Num n) : Lib.itoa n = Lib.decDigits n.toNat := by
  rw [Lib.itoa, if_neg (by have := h.1; omega)]
set_option maxHeartbeats 2000000 in
set_option maxRecDepth 100000 in
theorem binds_any (a0 : Option Addr) (n0 c0 : Nat) (xs : List Int) (a1 : Option Addr) (n1 c1 : Nat) (ss : List ByteArray) (bl : Bool) (w : World) (hE0 : Elems w w.heap.size a0 n0 (xs.map (Value.int .i64))) (hE1 : Elems w w.heap.size a1 n1 (ss.map Value.string))
    (hc0 : n0 ≤ c0 ∧ c0 ≤ maxLen) (hc1 : n1 ≤ c1 ∧ c1 ≤ maxLen) (hx : ∀ x ∈ xs, -9223372036854775808 ≤ x ∧ x ≤ 9223372036854775807) (ht : Tab w) :
    Calls Tryd.prog 3 #[.slice a0 n0 c0, .slice a1 n1 c1, .bool bl] w fun e w' => e = .returned (.bool true) ∧ Below w.heap.size w w' := by
  have CA := Lib.hid (anchor_any w ht)
  have hl0 : xs.length = n0 := by have := hE0.1; simpa using this
  have hl1 : ss.length = n1 := by have := hE1.1; simpa using this
  have S0 := Lib.hid (Sl.of_elems hE0 hc0.1 hc0.2)
  have S1 := Lib.hid (Sl.of_elems hE1 hc1.1 hc1.2)
  clear ht
  by_cases h1 : n0 < 1
  · clear hE0 hE1 hc0 hc1 hx hl0 hl1
    go_enter Tryd.func3, Tryd.ntmps3
    go_wp2_with fail
    refine CA.out.mono ?_
    rintro e w1 ⟨rfl, hb1⟩
    have H1 := Lib.hid hb1
    clear hb1
    go_wp2_with fail
    go_ret
    exact ⟨rfl, H1.out⟩
  · by_cases h12 : 12 < n0
    · clear hE0 hE1 hc0 hc1 hx hl0 hl1
      go_enter Tryd.func3, Tryd.ntmps3
      go_wp2_with fail
      refine CA.out.mono ?_
      rintro e w1 ⟨rfl, hb1⟩
      have H1 := Lib.hid hb1
      clear hb1
      go_wp2_with fail
      go_ret
      exact ⟨rfl, H1.out⟩
    · have hv : (n0 : Int) - 1 = ((n0 - 1 : Nat) : Int) := by omega
      by_cases hnn : n1 = n0 - 1
      · obtain ⟨b0, o0, i0, hb0, e0⟩ := hE0.open (P := Tryd.prog) 22 2 Tryd.underlying22 (by kernel_rfl)
        obtain ⟨b1, o1, i1, hb1, e1⟩ := hE1.open (P := Tryd.prog) 23 9 Tryd.underlying23 (by kernel_rfl)
        have hv2 : (n0 : Int) - 1 = (n1 : Int) := by omega
        have I0 := Lib.hid i0
        have I1 := Lib.hid i1
        have HC0 : Hid (∀ (k : Nat) (x : Int) (W : World), xs[k]? = some x → Below w.heap.size w W → W.cell? ⟨b0, o0 + k, none⟩ = some (.int .i64 x)) := Lib.hid fun k x W h hW => by
          have hk : k < n0 := by rw [← hl0]; exact (List.getElem?_eq_some_iff.1 h).1
          have hlt : b0 < w.heap.size := by omega
          rw [hW.cell (p := ⟨b0, o0 + k, none⟩) hlt, e0 k hk, List.getElem?_map, h]; rfl
        have HC1 : Hid (∀ (k : Nat) (x : ByteArray) (W : World), ss[k]? = some x → Below w.heap.size w W → W.cell? ⟨b1, o1 + k, none⟩ = some (.string x)) := Lib.hid fun k x W h hW => by
          have hk : k < n1 := by rw [← hl1]; exact (List.getElem?_eq_some_iff.1 h).1
          have hlt : b1 < w.heap.size := by omega
          rw [hW.cell (p := ⟨b1, o1 + k, none⟩) hlt, e1 k hk, List.getElem?_map, h]; rfl
        have HXR := Lib.hid hx
        have HL0 := Lib.hid hl0
        have HL1 := Lib.hid hl1
        have HNN := Lib.hid hnn
        have hn1 : n1 ≤ 11 := by omega
        clear i0 i1 e0 e1 hE0 hE1 hc0 hc1 hx hl0 hl1 hv hb0 hb1 hnn
        go_enter Tryd.func3, Tryd.ntmps3
        go_wp2_with fail
        refine CA.out.mono ?_
        rintro e w1 ⟨rfl, hb1⟩
        have H1 := Lib.hid hb1
        clear hb1
        go_wp2_with fail
        go_loopw [7, 35] (fun sv i wr => ∃ (k : Nat) (t : ByteArray), k ≤ n0 ∧ i = .int .i64 k ∧ sv = .string t ∧ Hid (Below w.heap.size w wr) ∧ Hid (Pre bl xs ss k t)) (fun _ i _ => n0 - (intOf i).toNat)
        case atStart => exact ⟨0, ⟨#[]⟩, Nat.zero_le _, rfl, rfl, H1, Lib.hid (.inl ⟨rfl, rfl⟩)⟩
        case round =>
          obtain ⟨k, t, hk, rfl, rfl, hbw, hpre⟩ := hrel
          clear H1
          have htz : t.size ≤ 276 := by have := hpre.out.len; omega
          by_cases hlt : k < n0
          · obtain ⟨x, hxk⟩ : ∃ x, xs[k]? = some x := ⟨_, List.getElem?_eq_getElem (by rw [HL0.out]; exact hlt)⟩
            have d0 := HC0.out k x wr hxk hbw.out
            have j0 := fun W => I0.out k c0 W hlt
            have hxr := HXR.out x (List.mem_of_getElem? hxk)
            have HXK := Lib.hid hxk
            clear hxk
            by_cases hneg : x < 0
            · clear htz
              go_wp2_with fail
              go_ret
              exact ⟨rfl, hbw.out⟩
            · have hnum : Num x := ⟨by omega, by omega⟩
              have HNUM := Lib.hid hnum
              obtain ⟨dg, hdg⟩ : ∃ dg : ByteArray, dg = ⟨(Lib.itoa x).toArray⟩ := ⟨_, rfl⟩
              have CDG : Hid (∀ W, Calls Tryd.prog 7 #[.int .i64 x] W fun e w' => e = .returned (.string dg) ∧ Below W.heap.size W w') := Lib.hid fun W => by rw [hdg]; exact rdig_any x hxr.1 hxr.2 W
              have hdl : L dg = Lib.decDigits x.toNat := by rw [hdg, ← itoa_num hnum]; rfl
              have hdz : dg.size ≤ 20 := by rw [← L_size, hdl]; exact num_len hnum
              have HDL := Lib.hid hdl
              clear hdg hdl hnum hxr
              by_cases hk0 : k = 0
              · subst hk0
                have ht0 : t = ⟨#[]⟩ := by
                  rcases hpre.out with ⟨_, h⟩ | ⟨n, l, h, _⟩
                  · exact h
                  · omega
                subst ht0
                have j00 : ∀ W, (Instr.indexAt 22 (.slice a0 n0 c0) (.int .i64 0)).run Tryd.prog W = .ok (.pointer (some ⟨b0, o0, none⟩)) W := fun W => I0.out 0 c0 W hlt
                have d00 : wr.cell? ⟨b0, o0, none⟩ = some (.int .i64 x) := d0
                clear j0 d0
                cases bl with
                | false =>
                  have HP : Hid (Pre false xs ss 1 (⟨#[]⟩ ++ dg)) := Lib.hid (Pre.first HXK.out HNUM.out (by rw [L_append, HDL.out]; rfl))
                  have k1 : ∀ W, (Op.stringOp .add ⟨#[]⟩ dg).run Tryd.prog W = .ok (.string (⟨#[]⟩ ++ dg)) W := fun W => run_string_add_sum W _ _ (by simp; omega)
                  clear htz
                  go_wp2_with fail
                  refine (CDG.out _).mono ?_
                  rintro e w2 ⟨rfl, hb2⟩
                  have HB2 := Lib.hid (hbw.out.trans (hb2.mono hbw.out.size))
                  clear hb2
                  go_wp2_with fail
                  go_roundw
                  case rel => exact ⟨1, _, by omega, by first | rfl | go_num, rfl, HB2, by first | exact HP | simpa using HP⟩
                  case measure => simp [intOf]; omega
                | true =>
                  have HP : Hid (Pre true xs ss 1 (⟨#[32]⟩ ++ dg)) := Lib.hid (Pre.first HXK.out HNUM.out (by rw [L_append, HDL.out]; rfl))
                  have k1 : ∀ W, (Op.stringOp .add ⟨#[32]⟩ dg).run Tryd.prog W = .ok (.string (⟨#[32]⟩ ++ dg)) W := fun W => run_string_add_sum W _ _ (by simp; omega)
                  have k2 : ∀ W, (Op.stringOp .add ⟨#[]⟩ ⟨#[32]⟩).run Tryd.prog W = .ok (.string ⟨#[32]⟩) W := fun W => by kernel_rfl
                  clear htz
                  go_wp2_with fail
                  refine (CDG.out _).mono ?_
                  rintro e w2 ⟨rfl, hb2⟩
                  have HB2 := Lib.hid (hbw.out.trans (hb2.mono hbw.out.size))
                  clear hb2
                  go_wp2_with fail
                  go_roundw
                  case rel => exact ⟨1, _, by omega, by first | rfl | go_num, rfl, HB2, by first | exact HP | simpa using HP⟩
                  case measure => simp [intOf]; omega
              · obtain ⟨kp, hkp⟩ : ∃ kp, kp = k - 1 := ⟨_, rfl⟩
                have hv1 : (k : Int) - 1 = (kp : Int) := by omega
                have hkpn : kp < n1 := by have := HNN.out; omega
                have hk1 : 0 < k := by omega
                obtain ⟨op, hop⟩ : ∃ op, ss[kp]? = some op := ⟨_, List.getElem?_eq_getElem (by rw [HL1.out]; exact hkpn)⟩
                have d1 := HC1.out kp op wr hop hbw.out
                have j1 := fun W => I1.out kp c1 W hkpn
                have CLV := Lib.hid (rlevel_any op wr)
                have HOP : Hid (ss[k - 1]? = some op) := Lib.hid (by rw [← hkp]; exact hop)
                have HOP2 := Lib.hid hop
                clear hkp hop hk0
                go_wp2_with fail
                refine CLV.out.mono ?_
                rintro e w2 ⟨⟨r, rfl, hr⟩, hb2⟩
                have HB2 := Lib.hid (hbw.out.trans (hb2.mono hbw.out.size))
                clear hb2
                rcases islev_neg hr with hr0 | ⟨o, ho, hol, hr0⟩
                · clear hr htz
                  go_wp2_with fail
                  go_ret
                  exact ⟨rfl, HB2.out⟩
                · have hopz : op.size ≤ 2 := by rw [← L_size, hol]; exact opB_len o ho
                  have d2 := HC1.out kp op w2 HOP2.out HB2.out
                  have HO := Lib.hid (And.intro ho hol)
                  have k1 : ∀ W, (Op.stringOp .add t op).run Tryd.prog W = .ok (.string (t ++ op)) W := fun W => run_string_add_sum W _ _ (by omega)
                  clear hr ho hol d1
                  cases bl with
                  | false =>
                    have HP : Hid (Pre false xs ss (k + 1) (t ++ op ++ dg)) := Lib.hid (hpre.out.next hk1 HXK.out HOP.out HO.out.1 HO.out.2 HNUM.out (by rw [L_append, L_append, HO.out.2, HDL.out]; simp [padB]))
                    have k2 : ∀ W, (Op.stringOp .add (t ++ op) dg).run Tryd.prog W = .ok (.string (t ++ op ++ dg)) W := fun W => run_string_add_sum W _ _ (by simp; omega)
                    clear htz hopz hdz
                    go_wp2_with fail
                    refine (CDG.out _).mono ?_
                    rintro e w3 ⟨rfl, hb3⟩
                    have HB3 := Lib.hid (HB2.out.trans (hb3.mono HB2.out.size))
                    clear hb3
                    go_wp2_with fail
                    go_roundw
                    case rel => exact ⟨k + 1, _, by omega, by first | rfl | go_num, rfl, HB3, HP⟩
                    case measure => simp [intOf]; omega
                  | true =>
                    have HP : Hid (Pre true xs ss (k + 1) (t ++ op ++ ⟨#[32]⟩ ++ dg)) := Lib.hid (hpre.out.next hk1 HXK.out HOP.out HO.out.1 HO.out.2 HNUM.out (by rw [L_append, L_append, L_append, HO.out.2, HDL.out]; simp [padB]))
                    have k2 : ∀ W, (Op.stringOp .add (t ++ op) ⟨#[32]⟩).run Tryd.prog W = .ok (.string (t ++ op ++ ⟨#[32]⟩)) W := fun W => run_string_add_sum W _ _ (by simp; omega)
                    have k3 : ∀ W, (Op.stringOp .add (t ++ op ++ ⟨#[32]⟩) dg).run Tryd.prog W = .ok (.string (t ++ op ++ ⟨#[32]⟩ ++ dg)) W := fun W => run_string_add_sum W _ _ (by simp; omega)
                    clear htz hopz hdz
                    go_wp2_with fail
                    refine (CDG.out _).mono ?_
                    rintro e w3 ⟨rfl, hb3⟩
                    have HB3 := Lib.hid (HB2.out.trans (hb3.mono HB2.out.size))
                    clear hb3
                    go_wp2_with fail
                    go_roundw
                    case rel => exact ⟨k + 1, _, by omega, by first | rfl | go_num, rfl, HB3, HP⟩
                    case measure => simp [intOf]; omega
          · obtain ⟨n, l, hkl, hxs, hss, hn, hl, hL⟩ : ∃ (n : Int) (l : List Tok), n0 = l.length + 1 ∧ xs = n :: l.map (·.2) ∧ ss = l.map (fun t => S (opB t.1)) ∧ Num n ∧ Row l ∧ L t = padB bl ++ (Lib.decDigits n.toNat ++ tailS bl l) := by
              have hkn : k = n0 := by omega
              rcases hpre.out with ⟨h0, _⟩ | ⟨n, l, h1, h2, h3, h4, h5, h6⟩
              · omega
              · refine ⟨n, l, by omega, ?_, ?_, h4, h5, h6⟩
                · rw [← h2, List.take_of_length_le (by rw [HL0.out]; omega)]
                · rw [← h3, List.take_of_length_le (by rw [HL1.out]; have := HNN.out; omega)]
            have hl12 : l.length ≤ 12 := by omega
            have SN : Hid (Sl w w.heap.size 1 (.slice a0 n0 c0) (l.length + 1) (numsV n l)) := Lib.hid (by
              have h := S0.out
              rw [hxs, hkl] at h
              rw [hkl]
              have e : (n :: l.map (·.2)).map (Value.int .i64) = numsV n l := by simp [numsV]
              rwa [e] at h)
            have SO : Hid (Sl w w.heap.size 1 (.slice a1 n1 c1) l.length (opsV l)) := Lib.hid (by
              have h := S1.out
              have hn1l : n1 = l.length := by have := HNN.out; omega
              rw [hss, hn1l] at h
              rw [hn1l]
              have e : (l.map fun t => S (opB t.1)).map Value.string = opsV l := by simp [opsV]
              rwa [e] at h)
            have CE : Hid (∀ (W : World) (T : TypeId) (pv : Value), Calls Tryd.prog 8 #[.string t, .iface T pv] W fun e w' => ((∃ v : Int, e = .returned (.tuple #[.int .i64 v, .int .i64 0]) ∧ worth apO n l = some v) ∨ (worth apO n l = none ∧ e = .returned (.tuple #[.int .i64 0, .int .i64 32]))) ∧ Below W.heap.size W w') := Lib.hid fun W T pv => eval_num (by omega) hn hl hL
            have CW : Hid (∀ W, Below w.heap.size w W → Calls Tryd.prog 10 #[.slice a0 n0 c0, .slice a1 n1 c1] W (RowP (rowT 13 n l) W)) := Lib.hid fun W hW => row_any 13 n l _ _ W w.heap.size (by omega) hl12 (fun t ht => (hl t ht).1) (SN.out.below hW) (SO.out.below hW) hW.size
            have CV : Hid (∀ (W : World) (lo : Nat) (cs : List Value), EC W lo (rowT 13 n l) cs → Calls Tryd.prog 9 #[.agg cs.toArray, .slice none 0 0] W fun e w' => e = .returned (evV (worth apO n l)) ∧ Below W.heap.size W w') := Lib.hid fun W lo cs h => ev_row hn hl hl12 h
            have hkn : k = n0 := by omega
            subst hkn
            clear hkl hxs hss hn hl hL hl12 SN SO htz
            go_wp2_with fail
            have H3 : Hid (Below w.heap.size w (wr.alloc (.cells #[.slice none 0 0, .string ⟨#[]⟩] 33))) := Lib.hid (hbw.out.alloc hbw.out.size _)
            refine (CE.out _ _ _).mono ?_
            rintro e w4 ⟨he, hb4⟩
            have H4 := Lib.hid (H3.out.trans (hb4.mono H3.out.size))
            clear hb4
            rcases he with ⟨v, rfl, hw⟩ | ⟨hw, rfl⟩
            ·
              go_wp2_with fail
              refine (CW.out _ H4.out).mono ?_
              rintro e w5 ⟨k1, i1, s1, p1, q1, c1, rfl, hec, hb5⟩
              have H5 := Lib.hid (H4.out.trans (hb5.mono H4.out.size))
              have CV2 := Lib.hid (CV.out w5 _ _ hec)
              rw [hw] at CV2
              rw [show evV (some v) = .tuple #[.int .i64 v, .slice none 0 0, .int .i64 0] from rfl] at CV2
              clear hec hb5
              go_wp2_with fail
              refine CV2.out.mono ?_
              rintro e w6 ⟨rfl, hb6⟩
              have H6 := Lib.hid (H5.out.trans (hb6.mono H5.out.size))
              clear hb6
              go_wp2_with fail
              go_ret
              exact ⟨rfl, H6.out⟩
            ·
              go_wp2_with fail
              refine (CW.out _ H4.out).mono ?_
              rintro e w5 ⟨k1, i1, s1, p1, q1, c1, rfl, hec, hb5⟩
              have H5 := Lib.hid (H4.out.trans (hb5.mono H4.out.size))
              have CV2 := Lib.hid (CV.out w5 _ _ hec)
              rw [hw] at CV2
              rw [show evV none = .tuple #[.int .i64 0, .slice none 0 0, .int .i64 32] from rfl] at CV2
              clear hec hb5
              go_wp2_with fail
              refine CV2.out.mono ?_
              rintro e w6 ⟨rfl, hb6⟩
              have H6 := Lib.hid (H5.out.trans (hb6.mono H5.out.size))
              clear hb6
              go_wp2_with fail
              go_ret
              exact ⟨rfl, H6.out⟩
      · have hne : ((n1 : Int) != (n0 : Int) - 1) = true := by rw [bne_iff_ne]; omega
        have hne2 : ((n1 : Int) != ((n0 - 1 : Nat) : Int)) = true := by rw [bne_iff_ne]; omega
        clear hE0 hE1 hc0 hc1 hx hl0 hl1 hv hnn
        go_enter Tryd.func3, Tryd.ntmps3
        go_wp2_with fail
        refine CA.out.mono ?_
        rintro e w1 ⟨rfl, hb1⟩
        have H1 := Lib.hid hb1
        clear hb1
        go_wp2_with fail
        go_ret
        exact ⟨rfl, H1.out⟩
end Go.Proofs.YtpgneaekflhgnaaDoor
