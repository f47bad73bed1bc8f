/-
  The walk of binary at a level, where the next level's is known.
-/
import Derived.Test.YtpgneaekflhgnaaDoorA13
namespace Go.Proofs.YtpgneaekflhgnaaDoor
open Go.RowKit

set_option maxHeartbeats 2000000 in
set_option maxRecDepth 100000 in
theorem bin_step {g : Nat} {s : ByteArray} {bl : Bool} {lf : Int} {vv : Value} {n : Nat} (hs : s.size ≤ 1000000) (hn : n < 10) (hB : BinOK g s bl lf vv (n + 1)) : BinOK g s bl lf vv n := by
  intro w y l q hy hl hq0 hq1 k
  have hmf : ∀ (fn : Fn) (first cap : Array Value) (w : World), (Instr.makeFunc fn first cap).run Tryd.prog w = .ok (.func fn first cap) w := fun _ _ _ _ => rfl
  have B0 := Lib.hid (BY.start k 52 3 (n : Int))
  have hn10 : ((n : Int) == 10) = false := by rw [beq_eq_false_iff_ne]; omega
  have hw : IntKind.i64.wrap ((n : Int) + 1) = ((n + 1 : Nat) : Int) := by rw [IntWalk.i64_in _ ⟨by omega, by omega⟩]; omega
  have HB := Lib.hid hB
  have HS := Lib.hid hs
  have HN := Lib.hid hn
  have HL := Lib.hid hl
  have HQ := Lib.hid (And.intro hq0 hq1)
  have C1 := Lib.hid (fun (W : World) (h : SR W g s (Lib.decDigits y.toNat ++ tailS bl l) lf vv q) => hB W y l q hy hl hq0 (by omega) h)
  clear hB hs hn hl hq0 hq1 k hy
  go_enter Tryd.func44, Tryd.ntmps44
  go_wp2_with fail
  refine (C1.out _ B0.out.sr).mono ?_
  rintro e w1 ⟨h12, h3⟩
  rcases h12.symm with ⟨h1, h2, rfl⟩ | ⟨v, rfl, h2, h2'⟩
  · exact ⟨rfl, .inr ⟨h1, worth_first h2, rfl⟩, B0.out.but.trans h3⟩
  clear h12
  have HR1 : Hid (Read1 n y l (tw (n + 1) l) (dw (n + 1) l) v q) := Lib.hid (Read1.start h2)
  have B1 := Lib.hid (B0.out.step h2' h3)
  clear h2 h2' h3 C1 B0
  go_wp2_with fail
  go_loopg [5] (dw (n + 1) l).length (fun m a wr => ∃ (c r : List Tok) (v : Int), a = .int .i64 v ∧ m = r.length ∧ Hid (Read1 n y l c r v q) ∧ Hid (BY w wr w.heap.size (w.heap.size + 1) g (n : Int) s (tailS bl r) lf vv q))
  case atStart => exact ⟨_, _, v, rfl, rfl, HR1, B1⟩
  case round =>
    obtain ⟨c, r, v, rfl, hm, hr1, hby⟩ := hrel
    have HM := Lib.hid hm
    clear hm HR1 B1
    have dx := hby.out.bx
    have dn := hby.out.bn
    have CS := Lib.hid (sign_any hby.out.sr HS.out HN.out)
    cases hrr : r with
    | nil =>
      have hsg : signL n (tailS bl r) = none := by rw [hrr]; exact sign_end n HN.out
      have HT : Hid (tw n l = c ∧ dw n l = r) := Lib.hid (hr1.out.stop (fun t s e => by rw [hrr] at e; cases e))
      rw [hsg] at CS
      change Hid (Calls Tryd.prog _ _ _ fun e w' => e = .returned (.string ⟨#[]⟩) ∧ SR w' g s (tailS bl r) lf vv q ∧ But g g wr w') at CS
      clear hsg
      go_wp2_with fail
      refine CS.out.mono ?_
      rintro e w2 ⟨rfl, hs2, hb2⟩
      have HF : Hid (SR w2 g s (tailS bl r) lf vv q ∧ But g g w w2) := Lib.hid ⟨hs2, hby.out.but.trans hb2⟩
      clear hs2 hb2
      go_wp2_with fail
      go_ret
      exact ⟨.inl ⟨_, rfl, fun hq => by rw [HT.out.1]; exact hr1.out.val hq, by rw [HT.out.2]; exact HF.out.1⟩, HF.out.2⟩
    | cons tok r' =>
      obtain ⟨o, y'⟩ := tok
      have hrow : Row ((o, y') :: r') := row_cut HL.out (by rw [← hrr]; exact hr1.out.eq)
      have ho : o < 18 := (hrow (o, y') (by simp)).1
      by_cases hol : opLev o = n
      · have hsg : signL n (tailS bl r) = some o := by rw [hrr, sign_tail HN.out ho, if_pos hol]
        rw [hsg] at CS
        have hy' : Num y' := (hrow (o, y') (by simp)).2
        have hl' : Row r' := fun t ht => hrow t (by simp [ht])
        rw [hrr] at hr1 hby HM CS
        have htl : sgnR (some o) (tailS bl ((o, y') :: r')) = Lib.decDigits y'.toNat ++ tailS bl r' := tail_sign
        rw [htl] at CS
        have HOL := Lib.hid hol
        have HYL := Lib.hid (And.intro hy' hl')
        clear hsg htl hrow hol hy' hl'
        have CLO : Hid (∀ (F : FuncId), F = 62 ∨ F = 63 → ∀ (W0 W : World) (q' : Int), 0 ≤ q' → q' ≤ n + 1 → BY w W0 w.heap.size (w.heap.size + 1) g (n : Int) s (Lib.decDigits y'.toNat ++ tailS bl r') lf vv q → But g g W0 W → SR W g s (Lib.decDigits y'.toNat ++ tailS bl r') lf vv q' →
            Calls Tryd.prog F #[.pointer (some ⟨w.heap.size, 0, none⟩), .pointer (some ⟨w.heap.size + 1, 0, none⟩)] W (BinP g s bl (n + 1) y' r' lf vv q' W)) := Lib.hid fun F hF W0 W q' h0 h1 hb hbt hsr =>
          clos_any F hF HN.out HB.out HYL.out.1 HYL.out.2 h0 h1 ((cell_but hbt (p := ⟨w.heap.size, 0, none⟩) hb.ltx hb.nex).trans hb.bx) ((cell_but hbt (p := ⟨w.heap.size + 1, 0, none⟩) hb.ltn hb.nen).trans hb.bn) hsr
        have CNO : Hid (∀ (F : FuncId), F = 62 ∨ F = 63 → ∀ W, BY w W w.heap.size (w.heap.size + 1) g (n : Int) s (Lib.decDigits y'.toNat ++ tailS bl r') lf vv q →
            Calls Tryd.prog 45 #[.pointer (some ⟨g, 0, none⟩), .bool false, .func (.func F) #[] #[.pointer (some ⟨w.heap.size, 0, none⟩), .pointer (some ⟨w.heap.size + 1, 0, none⟩)]] W fun e w' => ((∃ v : Int, e = .returned (.int .i64 v) ∧ (q = 0 → worth apO y' (tw (n + 1) r') = some v) ∧ BY w w' w.heap.size (w.heap.size + 1) g (n : Int) s (tailS bl (dw (n + 1) r')) lf vv q) ∨ (q = 0 ∧ worth apO y' (tw (n + 1) r') = none ∧ e = .panicked (errB 32) ∧ But g g w w'))) := Lib.hid fun F hF W hb => by
          refine unless_no F hF _ _ ((CLO.out F hF W _ q HQ.out.1 (by have := HQ.out.2; omega) hb ((But.refl g g W).alloc _) (hb.sr.alloc _)).mono ?_) ?_
          · rintro e w' ⟨⟨v, rfl, h2, h2'⟩ | ⟨h1, h2, rfl⟩, h3⟩
            · exact .inl ⟨v, rfl, h2, hb.step h2' (((But.refl g g W).alloc _).trans h3)⟩
            · exact .inr ⟨h1, h2, rfl, hb.but.trans (((But.refl g g W).alloc _).trans h3)⟩
          · rintro e w' (⟨v, rfl, _⟩ | ⟨_, _, rfl, _⟩)
            · exact .inl ⟨v, rfl⟩
            · exact .inr ⟨_, rfl⟩
        have CYES : Hid (∀ (F : FuncId), F = 62 ∨ F = 63 → ∀ W, BY w W w.heap.size (w.heap.size + 1) g (n : Int) s (Lib.decDigits y'.toNat ++ tailS bl r') lf vv q →
            Calls Tryd.prog 45 #[.pointer (some ⟨g, 0, none⟩), .bool true, .func (.func F) #[] #[.pointer (some ⟨w.heap.size, 0, none⟩), .pointer (some ⟨w.heap.size + 1, 0, none⟩)]] W fun e w' => (∃ v : Int, e = .returned (.int .i64 v)) ∧ BY w w' w.heap.size (w.heap.size + 1) g (n : Int) s (tailS bl (dw (n + 1) r')) lf vv q) := Lib.hid fun F hF W hb => by
          have hq := HQ.out
          have hn := HN.out
          refine (unless_yes (l' := tailS bl (dw (n + 1) r')) hb.sr hq.1 (by omega) F hF _ fun W2 hsr hbt => (CLO.out F hF W W2 (q + 1) (by omega) (by omega) hb hbt hsr).mono ?_).mono ?_
          · rintro e w' ⟨⟨v, rfl, h2, h2'⟩ | ⟨h1, h2, rfl⟩, h3⟩
            · exact ⟨⟨v, rfl⟩, h2', h3⟩
            · omega
          · rintro e w' ⟨h1, h2, h3⟩
            exact ⟨h1, hb.step h2 h3⟩
        have HMM : Hid ((dw (n + 1) r').length < gk) := Lib.hid (by have h1 := HM.out; have h2 := dw_le (n + 1) r'; rw [List.length_cons] at h1; omega)
        clear CLO
        -- $1$: the sign
        by_cases ho2 : 2 ≤ o
        · obtain ⟨t1, t2⟩ := op_tests o ho
          obtain ⟨t2, t3⟩ := t2 ho2
          change Hid (Calls Tryd.prog _ _ _ fun e w' => e = .returned (.string (S (opB o))) ∧ SR w' g s (Lib.decDigits y'.toNat ++ tailS bl r') lf vv q ∧ But g g wr w') at CS
          obtain ⟨st, hst⟩ : ∃ st, st = S (opB o) := ⟨_, rfl⟩
          rw [← hst] at CS
          have e1 : st.toList.isEmpty = false := by rw [hst, isEmpty_L, L_S]; exact t1
          have e2 : (st.toList == [124, 124]) = false := by rw [hst, toList_S]; exact t2
          have e3 : (st.toList == [38, 38]) = false := by rw [hst, toList_S]; exact t3
          have CD : Hid (∀ (W : World) (a b : Int) (l' : List UInt8), SR W g s l' lf vv q → Calls Tryd.prog 42 #[.pointer (some ⟨g, 0, none⟩), .string st, .int .i64 a, .int .i64 b] W fun e w' =>
              ((q ≤ 0 ∧ apO o a b = none ∧ e = .panicked (errB 32)) ∨ ∃ v, e = .returned (.int .i64 v) ∧ (q ≤ 0 → apO o a b = some v)) ∧ W = w') := Lib.hid fun W a b l' h => by
            obtain ⟨p, _, _, hb⟩ := h
            rw [hst]
            exact do_any ho2 ho a b hb
          have C2 : Hid (∀ W, SR W g s (Lib.decDigits y'.toNat ++ tailS bl r') lf vv q → Calls Tryd.prog 44 #[.pointer (some ⟨g, 0, none⟩), .int .i64 ((n : Int) + 1)] W (BinP g s bl (n + 1) y' r' lf vv q W)) := Lib.hid fun W h => HB.out W y' r' q HYL.out.1 HYL.out.2 HQ.out.1 (by have := HQ.out.2; omega) h
          have HO : Hid (∀ (a : Int) (b : Option Int), combV apO o (some a) b = b.bind fun z => apO o a z) := Lib.hid fun a b => by
            have h0 : o ≠ 0 := by omega
            have h1 : o ≠ 1 := by omega
            simp [combV, h0, h1]
          clear hst t1 t2 t3 ho2 ho CNO CYES
          go_wp2_with fail
          refine CS.out.mono ?_
          rintro e w2 ⟨rfl, hs2, hb2⟩
          have B2 := Lib.hid (hby.out.step hs2 hb2)
          have dx2 := B2.out.bx
          have dn2 := B2.out.bn
          clear hs2 hb2 dx dn
          have HD : Hid (SR w2.drew g s (Lib.decDigits y'.toNat ++ tailS bl r') lf vv q ∧ ∀ W3, But g g w2.drew W3 → But g g w2 W3) := Lib.hid ⟨B2.out.sr.below (Below.drew (Below.refl _ _)), fun W3 h => ((But.refl g g w2).on (Below.drew (Below.refl _ _))).trans h⟩
          go_wp2_with fail
          go_region_with (first
            | (go_at_call 44; refine (C2.out _ ?_).mono ?_; exact HD.out.1; rintro e w3 ⟨h, hb4⟩; have hb3 := HD.out.2 _ hb4; clear hb4; rcases h.symm with ⟨hq, hn2, rfl⟩ | ⟨v2, rfl, hw3, hs3⟩; (exact ⟨rfl, .inr ⟨hq, hr1.out.fail HOL.out hq (by rw [hn2, HO.out]; rfl), rfl⟩, B2.out.but.trans hb3⟩); have B3 := Lib.hid (B2.out.step hs3 hb3); have dx3 := B3.out.bx; have HW3 := Lib.hid hw3; clear h hw3 hs3 hb3)
            | (go_at_call 42; refine (CD.out _ _ _ _ B3.out.sr).mono ?_; rintro e w4 ⟨h, rfl⟩; rcases h with ⟨hq, hn2, rfl⟩ | ⟨x, rfl, hx⟩; (exact ⟨rfl, .inr ⟨(by have := HQ.out.1; omega), hr1.out.fail HOL.out (by have := HQ.out.1; omega) (by rw [HW3.out (by have := HQ.out.1; omega), HO.out]; exact hn2), rfl⟩, B3.out.but⟩); have HX := Lib.hid hx; clear hx))
          all_goals
            go_wp2_with fail
            go_roundg (dw (n + 1) r').length
            case measure => exact HMM.out
            case rel => exact ⟨_, _, _, rfl, rfl, Lib.hid (hr1.out.more HOL.out fun hq => by rw [HW3.out hq, HO.out]; exact HX.out (by omega)), B3⟩
        · obtain rfl | rfl : o = 0 ∨ o = 1 := by omega
          ·
            change Hid (Calls Tryd.prog _ _ _ fun e w' => e = .returned (.string (S (opB 0))) ∧ SR w' g s (Lib.decDigits y'.toNat ++ tailS bl r') lf vv q ∧ But g g wr w') at CS
            rw [sB0] at CS
            clear ho2 ho
            go_wp2_with fail
            refine CS.out.mono ?_
            rintro e w2 ⟨rfl, hs2, hb2⟩
            have B2 := Lib.hid (hby.out.step hs2 hb2)
            have dx2 := B2.out.bx
            have dn2 := B2.out.bn
            clear hs2 hb2 dx dn
            by_cases hv : v = 0
            · subst hv
              go_wp2_with fail
              refine (CNO.out _ (.inl rfl) _ B2.out).mono ?_
              rintro e w3 h
              rcases h.symm with ⟨hq, hn2, rfl, hb3⟩ | ⟨v2, rfl, hw3, hb3⟩
              · exact ⟨rfl, .inr ⟨hq, hr1.out.fail HOL.out hq (by rw [hn2]; rfl), rfl⟩, hb3⟩
              clear h
              have HB3 := Lib.hid hb3
              have HW3 := Lib.hid hw3
              clear hb3 hw3
              by_cases hv2 : v2 = 0
              · subst hv2
                go_wp2_with fail
                refine (truth_any _ _).mono ?_
                rintro e w' ⟨rfl, rfl⟩
                go_wp2_with fail
                go_roundg (dw (n + 1) r').length
                case measure => exact HMM.out
                case rel => exact ⟨_, _, _, rfl, rfl, Lib.hid (hr1.out.more HOL.out fun hq => by first | (rw [HW3.out hq]; rfl) | rfl | (rw [HW3.out hq]; simp [combV, truI, if_true]; done) | (simp [combV, truI, if_true]; done)), HB3⟩
              · have HV2 := Lib.hid hv2
                have hv3 : ((v2 : Int) != 0) = true := by rw [bne_iff_ne]; exact hv2
                have hv4 : ((v2 : Int) == 0) = false := by rw [beq_eq_false_iff_ne]; exact hv2
                go_wp2_with fail
                refine (truth_any _ _).mono ?_
                rintro e w' ⟨rfl, rfl⟩
                go_wp2_with fail
                go_roundg (dw (n + 1) r').length
                case measure => exact HMM.out
                case rel => exact ⟨_, _, _, rfl, rfl, Lib.hid (hr1.out.more HOL.out fun hq => by first | (rw [HW3.out hq]; simp [combV, truI, HV2.out, if_true]; done) | (simp [combV, truI, HV2.out, if_true]; done)), HB3⟩
            · have HV := Lib.hid hv
              have hv1 : ((v : Int) != 0) = true := by rw [bne_iff_ne]; exact hv
              have hv5 : ((v : Int) == 0) = false := by rw [beq_eq_false_iff_ne]; exact hv
              clear hv
              go_wp2_with fail
              refine (CYES.out _ (.inl rfl) _ B2.out).mono ?_
              rintro e w3 ⟨⟨v2, rfl⟩, hb3⟩
              have hw3 := trivial
              have HB3 := Lib.hid hb3
              have HW3 := Lib.hid hw3
              clear hb3 hw3
              by_cases hv2 : v2 = 0
              · subst hv2
                go_wp2_with fail
                refine (truth_any _ _).mono ?_
                rintro e w' ⟨rfl, rfl⟩
                go_wp2_with fail
                go_roundg (dw (n + 1) r').length
                case measure => exact HMM.out
                case rel => exact ⟨_, _, _, rfl, rfl, Lib.hid (hr1.out.more HOL.out fun hq => by first | (rw [HW3.out hq]; rfl) | rfl | (rw [HW3.out hq]; simp [combV, truI, HV.out]; done) | (simp [combV, truI, HV.out]; done)), HB3⟩
              · have HV2 := Lib.hid hv2
                have hv3 : ((v2 : Int) != 0) = true := by rw [bne_iff_ne]; exact hv2
                have hv4 : ((v2 : Int) == 0) = false := by rw [beq_eq_false_iff_ne]; exact hv2
                go_wp2_with fail
                refine (truth_any _ _).mono ?_
                rintro e w' ⟨rfl, rfl⟩
                go_wp2_with fail
                go_roundg (dw (n + 1) r').length
                case measure => exact HMM.out
                case rel => exact ⟨_, _, _, rfl, rfl, Lib.hid (hr1.out.more HOL.out fun hq => by first | (rw [HW3.out hq]; simp [combV, truI, HV2.out, HV.out]; done) | (simp [combV, truI, HV2.out, HV.out]; done)), HB3⟩
          ·
            change Hid (Calls Tryd.prog _ _ _ fun e w' => e = .returned (.string (S (opB 1))) ∧ SR w' g s (Lib.decDigits y'.toNat ++ tailS bl r') lf vv q ∧ But g g wr w') at CS
            rw [sB1] at CS
            clear ho2 ho
            go_wp2_with fail
            refine CS.out.mono ?_
            rintro e w2 ⟨rfl, hs2, hb2⟩
            have B2 := Lib.hid (hby.out.step hs2 hb2)
            have dx2 := B2.out.bx
            have dn2 := B2.out.bn
            clear hs2 hb2 dx dn
            by_cases hv : v = 0
            · subst hv
              go_wp2_with fail
              refine (CYES.out _ (.inr rfl) _ B2.out).mono ?_
              rintro e w3 ⟨⟨v2, rfl⟩, hb3⟩
              have hw3 := trivial
              have HB3 := Lib.hid hb3
              have HW3 := Lib.hid hw3
              clear hb3 hw3
              by_cases hv2 : v2 = 0
              · subst hv2
                go_wp2_with fail
                refine (truth_any _ _).mono ?_
                rintro e w' ⟨rfl, rfl⟩
                go_wp2_with fail
                go_roundg (dw (n + 1) r').length
                case measure => exact HMM.out
                case rel => exact ⟨_, _, _, rfl, rfl, Lib.hid (hr1.out.more HOL.out fun hq => by first | (rw [HW3.out hq]; rfl) | rfl | (rw [HW3.out hq]; simp [combV, truI, if_true]; done) | (simp [combV, truI, if_true]; done)), HB3⟩
              · have HV2 := Lib.hid hv2
                have hv3 : ((v2 : Int) != 0) = true := by rw [bne_iff_ne]; exact hv2
                have hv4 : ((v2 : Int) == 0) = false := by rw [beq_eq_false_iff_ne]; exact hv2
                go_wp2_with fail
                refine (truth_any _ _).mono ?_
                rintro e w' ⟨rfl, rfl⟩
                go_wp2_with fail
                go_roundg (dw (n + 1) r').length
                case measure => exact HMM.out
                case rel => exact ⟨_, _, _, rfl, rfl, Lib.hid (hr1.out.more HOL.out fun hq => by first | (rw [HW3.out hq]; simp [combV, truI, HV2.out, if_true]; done) | (simp [combV, truI, HV2.out, if_true]; done)), HB3⟩
            · have HV := Lib.hid hv
              have hv1 : ((v : Int) != 0) = true := by rw [bne_iff_ne]; exact hv
              have hv5 : ((v : Int) == 0) = false := by rw [beq_eq_false_iff_ne]; exact hv
              clear hv
              go_wp2_with fail
              refine (CNO.out _ (.inr rfl) _ B2.out).mono ?_
              rintro e w3 h
              rcases h.symm with ⟨hq, hn2, rfl, hb3⟩ | ⟨v2, rfl, hw3, hb3⟩
              · exact ⟨rfl, .inr ⟨hq, hr1.out.fail HOL.out hq (by rw [hn2]; simp [combV, HV.out]), rfl⟩, hb3⟩
              clear h
              have HB3 := Lib.hid hb3
              have HW3 := Lib.hid hw3
              clear hb3 hw3
              by_cases hv2 : v2 = 0
              · subst hv2
                go_wp2_with fail
                refine (truth_any _ _).mono ?_
                rintro e w' ⟨rfl, rfl⟩
                go_wp2_with fail
                go_roundg (dw (n + 1) r').length
                case measure => exact HMM.out
                case rel => exact ⟨_, _, _, rfl, rfl, Lib.hid (hr1.out.more HOL.out fun hq => by first | (rw [HW3.out hq]; rfl) | rfl | (rw [HW3.out hq]; simp [combV, truI, HV.out]; done) | (simp [combV, truI, HV.out]; done)), HB3⟩
              · have HV2 := Lib.hid hv2
                have hv3 : ((v2 : Int) != 0) = true := by rw [bne_iff_ne]; exact hv2
                have hv4 : ((v2 : Int) == 0) = false := by rw [beq_eq_false_iff_ne]; exact hv2
                go_wp2_with fail
                refine (truth_any _ _).mono ?_
                rintro e w' ⟨rfl, rfl⟩
                go_wp2_with fail
                go_roundg (dw (n + 1) r').length
                case measure => exact HMM.out
                case rel => exact ⟨_, _, _, rfl, rfl, Lib.hid (hr1.out.more HOL.out fun hq => by first | (rw [HW3.out hq]; simp [combV, truI, HV2.out, HV.out]; done) | (simp [combV, truI, HV2.out, HV.out]; done)), HB3⟩
      · have hsg : signL n (tailS bl r) = none := by rw [hrr, sign_tail HN.out ho, if_neg hol]
        have HT : Hid (tw n l = c ∧ dw n l = r) := Lib.hid (hr1.out.stop (fun t s e => by rw [hrr] at e; cases e; exact hol))
        rw [hsg] at CS
        change Hid (Calls Tryd.prog _ _ _ fun e w' => e = .returned (.string ⟨#[]⟩) ∧ SR w' g s (tailS bl r) lf vv q ∧ But g g wr w') at CS
        clear hsg
        go_wp2_with fail
        refine CS.out.mono ?_
        rintro e w2 ⟨rfl, hs2, hb2⟩
        have HF : Hid (SR w2 g s (tailS bl r) lf vv q ∧ But g g w w2) := Lib.hid ⟨hs2, hby.out.but.trans hb2⟩
        clear hs2 hb2
        go_wp2_with fail
        go_ret
        exact ⟨.inl ⟨_, rfl, fun hq => by rw [HT.out.1]; exact hr1.out.val hq, by rw [HT.out.2]; exact HF.out.1⟩, HF.out.2⟩
end Go.Proofs.YtpgneaekflhgnaaDoor
