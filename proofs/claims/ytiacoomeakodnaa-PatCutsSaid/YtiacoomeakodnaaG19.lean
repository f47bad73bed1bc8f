/-
  The document's Set: the walk.
-/
import Derived.Test.YtiacoomeakodnaaG18
import Derived.Deep.DeepCutAuto
namespace Go.Proofs.Ytiacoomeakodnaa
open Go.RowKit

theorem setP_fits (l : List Sg) (c : UInt8) : (setP l).map (fun x => (fitsP x.1 c, x.2)) = (setS true (off0 l) [] (l.drop (off0 l))).map fun x => (x.1.any (inSpan c) != notS l, x.2) := by
  rw [setP_of rfl, Option.map_map]
  congr 1
  funext x
  obtain ⟨sp, k⟩ := x
  show (if sp.any (inSpan c) then !notS l else notS l, k) = _
  cases sp.any (inSpan c) <;> cases notS l <;> rfl

theorem namedN_some {l : List Sg} {nm : List UInt8} {m : Nat} (h : namedN l = some (nm, m)) : ∃ cs, classL nm = some cs ∧ namedS l = some (cs, m) := by
  have hs : (classL nm).isSome = true := by
    match l, h with
    | a :: b :: t, hN =>
      cases h : (isb a 91 && isb b 58) with
      | false => rw [namedN_no h] at hN; cases hN
      | true =>
        rw [namedN_yes h] at hN
        cases hs : nameS [] 2 t with
        | none => rw [hs] at hN; cases hN
        | some y =>
          obtain ⟨n', k'⟩ := y
          rw [hs] at hN
          change (if (classL n').isSome then some (n', k') else none) = some (nm, m) at hN
          cases hc : (classL n').isSome with
          | false => rw [hc] at hN; cases hN
          | true => rw [hc] at hN; cases hN; exact hc
  obtain ⟨cs, hcs⟩ := Option.isSome_iff_exists.1 hs
  refine ⟨cs, hcs, ?_⟩
  rw [named_of, h]
  show (classL nm).map (·, m) = _
  rw [hcs]; rfl
theorem namedN_none {l : List Sg} (h : namedN l = none) : namedS l = none := by rw [named_of, h]; rfl

def setAns (o : Option (Bool × Nat)) (k0 : Nat) : Value := match o with
  | some (h, k) => .tuple #[.bool h, .int .i64 (((k0 + k : Nat)) : Int)]
  | none => .tuple #[.bool false, .int .i64 (-1)]
def SetAt (o : Option (Bool × Nat)) (k0 : Nat) (w : World) (e : Ending) (w' : World) : Prop := e = .returned (setAns o k0) ∧ Below w.heap.size w w'

set_option maxHeartbeats 4000000 in
set_option maxRecDepth 100000 in
theorem rset_any (l : List Sg) (v : Value) (k0 : Nat) (c : UInt8) (w : World) (hl : Sl w w.heap.size 2 v l.length (l.flatMap sgC)) (hn : l.length ≤ 100000) (hk0 : k0 ≤ l.length) :
    Calls Try.prog 25 #[v, .int .i64 (k0 : Int), .int .u8 ((c.toNat : Nat) : Int)] w (SetAt ((setP (l.drop k0)).map fun x => (fitsP x.1 c, x.2)) k0 w) := by
  rw [setP_fits]
  obtain ⟨ng, hng⟩ : ∃ ng, ng = notS (l.drop k0) := ⟨_, rfl⟩
  obtain ⟨f0, hf0⟩ : ∃ f0, f0 = off0 (l.drop k0) := ⟨_, rfl⟩
  obtain ⟨R, hR⟩ : ∃ R, R = setS true f0 [] (l.drop (k0 + f0)) := ⟨_, rfl⟩
  rw [List.drop_drop, ← hf0, ← hR, ← hng]
  have CI : Hid (∀ W, Below w.heap.size w W → ∀ (k : Nat) (b : UInt8) (c : Int) (r : Bool), c = ((b.toNat : Nat) : Int) → k ≤ 100010 → isAtL l k b = r → Calls Try.prog 24 #[v, .int .i64 (k : Int), .int .u8 c] W fun e w' => e = .returned (.bool r) ∧ W = w') := Lib.hid fun W hW k b c r hc hk hr => by
    rw [← hr, hc]; exact ris_any l v k b W ((hl.below hW).mono hW.size) (by omega)
  have CN : Hid (∀ W, Below w.heap.size w W → ∀ k, k ≤ l.length → Calls Try.prog 28 #[v, .int .i64 (k : Int)] W (NamedAt (namedN (l.drop k)) k W)) := Lib.hid fun W hW k hk => rnamed_any l v k W ((hl.below hW).mono hW.size) hn hk
  obtain ⟨n, hnl⟩ : ∃ n, n = l.length := ⟨_, rfl⟩
  rw [← hnl] at hn hk0 CN
  have HL := Lib.hid hl
  rw [← hnl] at hl
  obtain ⟨a, cap, rfl⟩ : ∃ a cap, v = .slice a n cap := by
    obtain ⟨_, a, cap, h, _⟩ := hl
    exact ⟨a, cap, h⟩
  have HN := Lib.hid hnl
  have HR0 := Lib.hid hR
  have HF := Lib.hid hf0
  obtain ⟨q1, hq1⟩ : ∃ r, isAtL l k0 33 = r := ⟨_, rfl⟩
  obtain ⟨q2, hq2⟩ : ∃ r, isAtL l k0 94 = r := ⟨_, rfl⟩
  have C1 := Lib.hid (fun W hW => CI.out W hW k0 33 33 q1 rfl (by omega) hq1)
  have C2 := Lib.hid (fun W hW => CI.out W hW k0 94 94 q2 rfl (by omega) hq2)
  have hng2 : ng = (q1 || q2) := by
    rw [hng, ← hq1, ← hq2]
    unfold isAtL
    rw [show l[k0]? = (l.drop k0)[0]? by rw [List.getElem?_drop, Nat.add_zero]]
    cases l.drop k0 <;> rfl
  have hf2 : f0 = if q1 || q2 then 1 else 0 := by rw [hf0, off0, ← hng, hng2]
  have hf1 : f0 = 1 → k0 < n := fun h => by
    have h1 : q1 = true ∨ q2 = true := by
      rw [h] at hf2
      revert hf2
      cases q1 <;> cases q2 <;> simp
    rcases Nat.lt_or_ge k0 n with h2 | h2
    · exact h2
    · rw [isAtL_none (by omega)] at hq1 hq2
      rcases h1 with h1 | h1
      · rw [h1] at hq1; cases hq1
      · rw [h1] at hq2; cases hq2
  have HK := Lib.hid hf1
  clear hl hnl hR hf0 hng hq1 hq2 hf1
  have hf3 : f0 = if ng then 1 else 0 := by rw [hf2, hng2]
  have hk01 : k0 + f0 ≤ n := by
    rcases (show f0 = 0 ∨ f0 = 1 by rw [hf3]; cases ng <;> simp) with h | h
    · omega
    · have := HK.out h; omega
  have HF3 := Lib.hid hf3
  have HNG := Lib.hid hng2
  clear hf2 hf3 hng2 HK HF
  go_enter Try.func25, Try.ntmps25
  go_upto_region 1 with (fail)
  go_cut [8] (fun s8 wx => s8 = .bool ng ∧ w = wx)
  case first =>
    cases q1 with
    | true =>
      go_wp2_with fail
      refine (C1.out _ (Below.refl _ _)).mono ?_
      rintro e w' ⟨rfl, rfl⟩
      go_wp2_with fail
      go_meet
      exact ⟨by rw [HNG.out]; rfl, rfl⟩
    | false =>
      go_wp2_with fail
      refine (C1.out _ (Below.refl _ _)).mono ?_
      rintro e w' ⟨rfl, rfl⟩
      go_wp2_with fail
      refine (C2.out _ (Below.refl _ _)).mono ?_
      rintro e w' ⟨rfl, rfl⟩
      go_wp2_with fail
      go_meet
      exact ⟨by rw [HNG.out]; rfl, rfl⟩
  case rest =>
    obtain ⟨rfl, rfl⟩ := hcut
    go_upto_if 25 with (fail)
    go_cut [1] (fun s1 wx => s1 = .int .i64 ((k0 + f0 : Nat) : Int) ∧ w = wx)
    case first =>
      cases ng with
      | true =>
        go_wp2_with fail
        go_meet
        exact ⟨by rw [HF3.out]; go_num, rfl⟩
      | false =>
        go_wp2_with fail
        go_meet
        exact ⟨by rw [HF3.out]; rfl, rfl⟩
    case rest =>
      obtain ⟨rfl, rfl⟩ := hcut
      clear C1 C2
      go_wp2_with fail
      go_loopw [1, 9, 10] (fun at_ f fi wr => ∃ (k : Nat) (sp : List Span) (fb : Bool), k0 ≤ k ∧ k ≤ n ∧ at_ = .int .i64 (k : Nat) ∧ f = .bool (sp.any (inSpan c)) ∧ fi = .bool fb ∧ R = setS fb (k - k0) sp (l.drop k) ∧ Below w.heap.size w wr) (fun at_ _ _ _ => n - (intOf at_).toNat)
      case atStart => exact ⟨k0 + f0, [], true, by omega, hk01, by first | exact rfl | trivial | go_num, by first | exact rfl | trivial, by first | exact rfl | trivial, by rw [HR0.out, show k0 + f0 - k0 = f0 by omega], Below.refl _ _⟩
      case round =>
        obtain ⟨k, sp, fb, hk1, hk2, rfl, rfl, rfl, hr, hb⟩ := hrel
        have HB := Lib.hid hb
        have HRR := Lib.hid hr
        have hsz := hb.size
        clear hr
        obtain ⟨fd, hfd⟩ : ∃ fd, sp.any (inSpan c) = fd := ⟨_, rfl⟩
        rw [hfd]
        have HFD := Lib.hid hfd
        clear hfd
        by_cases hlt : k < n
        · obtain ⟨x, hx⟩ : ∃ x, l[k]? = some x := ⟨_, List.getElem?_eq_getElem (by rw [← HN.out]; omega)⟩
          obtain ⟨r1, hr1⟩ : ∃ r, isb x 93 = r := ⟨_, rfl⟩
          have D1 := Lib.hid (CI.out wr hb k 93 93 r1 rfl (by omega) ((isAtL_some hx _).trans hr1))
          have hdr := drop_cons hx
          cases hend : (r1 && !fb) with
          | true =>
            simp at hend
            obtain ⟨rfl, rfl⟩ := hend
            have hR : R = some (sp, k - k0 + 1) := by rw [HRR.out, hdr, setS_end hr1]
            subst hR
            clear hr1 hdr hx hb HR0
            go_wp2_with fail
            refine D1.out.mono ?_
            rintro e w' ⟨rfl, rfl⟩
            go_wp2_with fail
            go_ret2
            refine ⟨?_, HB.out⟩
            show _ = Ending.returned (.tuple #[.bool (sp.any (inSpan c) != ng), .int .i64 (((k0 + (k - k0 + 1) : Nat)) : Int)])
            rw [HFD.out, show k0 + (k - k0 + 1) = k + 1 by omega]
            cases fd <;> cases ng <;> rfl
          | false =>
            have hend2 : (isb x 93 && !fb) = false := by rw [hr1, hend]
            have D2 := Lib.hid (CN.out wr hb k hk2)
            cases hN : namedN (l.drop k) with
            | some cm =>
              obtain ⟨nm, m⟩ := cm
              rw [hN] at D2
              obtain ⟨cs, hcs, hns⟩ := namedN_some hN
              have hm := namedS_gt hns
              rw [List.length_drop, ← HN.out] at hm
              have D3 : Hid (∀ W, Calls Try.prog 29 #[.string (S nm), .int .u8 ((c.toNat : Nat) : Int)] W fun e w' => e = .returned (.tuple #[.bool (cs.any (inSpan c)), .bool true]) ∧ W = w') := Lib.hid fun W => by
                have h := rin_any (S nm) c W
                rw [L_S, hcs] at h
                exact h
              have D2b : Hid (Calls Try.prog 28 #[.slice a n cap, .int .i64 ((k : Nat) : Int)] wr fun e w' => e = .returned (.tuple #[.string (S nm), .int .i64 ((k : Int) + (m : Nat))]) ∧ Below wr.heap.size wr w') := Lib.hid D2.out
              have HR2 : Hid (R = setS false (k + m - k0) (sp ++ cs) (l.drop (k + m))) := Lib.hid (by
                rw [HRR.out, hdr, setS_named hend2 (by rw [← hdr]; exact hns), ← hdr, List.drop_drop, show k - k0 + m = k + m - k0 by omega])
              have HA : Hid ((sp ++ cs).any (inSpan c) = (fd || cs.any (inSpan c))) := Lib.hid (by rw [List.any_append, HFD.out])
              have hkm : k + m ≤ n := by omega
              have hm1 : 4 ≤ m := hm.1
              have hk5 : r1 = false ∨ (r1 = true ∧ fb = true) := by
                cases r1 with
                | false => exact .inl rfl
                | true => simp at hend; exact .inr ⟨rfl, hend⟩
              clear hr1 hdr hx hb HR0 hcs hns hN hend hend2 D2 hm
              rcases hk5 with rfl | ⟨rfl, rfl⟩
              all_goals
                cases fd
                all_goals
                  as_aux_lemma =>
                    go_wp2_with fail
                    refine D1.out.mono ?_
                    rintro e w' ⟨rfl, rfl⟩
                    go_wp2_with fail
                    refine D2b.out.mono ?_
                    rintro e w1 ⟨rfl, hb1⟩
                    have HB1 := Lib.hid (HB.out.trans (hb1.mono hsz))
                    clear hb1
                    go_wp2_with fail
                    refine (D3.out _).mono ?_
                    rintro e w' ⟨rfl, rfl⟩
                    go_wp2_with fail
                    go_roundw
                    case rel => exact ⟨k + m, sp ++ cs, false, by omega, hkm, by first | exact rfl | trivial | go_num, by first | (rw [HA.out]; first | exact rfl | (simp; done)) | trivial, by first | exact rfl | trivial, HR2.out, HB1.out⟩
                    case measure => simp [intOf]; omega
            | none =>
              rw [hN] at D2
              have hns := namedN_none hN
              have D2b : Hid (Calls Try.prog 28 #[.slice a n cap, .int .i64 ((k : Nat) : Int)] wr fun e w' => e = .returned (.tuple #[.string ⟨#[]⟩, .int .i64 (-1)]) ∧ Below wr.heap.size wr w') := Lib.hid D2.out
              have HEL : Hid (∀ W, Below w.heap.size w W → ∀ (j : Nat) (y : Sg), l[j]? = some y → ∀ i : Int, i = j → ∃ b o, (∀ w' : World, (Instr.indexAt 31 (.slice a n cap) (.int .i64 i)).run Try.prog w' = .ok (.pointer (some ⟨b, o, none⟩)) w') ∧ b < w.heap.size ∧ W.cell? ⟨b, o, none⟩ = some (.int .u8 ((y.b.toNat : Nat) : Int))) := Lib.hid fun W hW j y hy i hi => by
                obtain ⟨b, o, z1, z2, z3, _⟩ := rsg_at (HL.out.below hW) hy i hi
                exact ⟨b, o, z1, z2, z3⟩
              have hk5 : r1 = false ∨ (r1 = true ∧ fb = true) := by
                cases r1 with
                | false => exact .inl rfl
                | true => simp at hend; exact .inr ⟨rfl, hend⟩
              have hone : ∀ hi : UInt8, (match rangeS (l.drop (k + 1)) with | some z => hi = z | none => hi = x.b) → R = setS false ((if (rangeS (l.drop (k + 1))).isSome then k + 3 else k + 1) - k0) (sp ++ [(x.b, hi)]) (l.drop (if (rangeS (l.drop (k + 1))).isSome then k + 3 else k + 1)) := fun hi hc => by
                rw [HRR.out, hdr]
                cases hrg : rangeS (l.drop (k + 1)) with
                | some z =>
                  rw [hrg] at hc
                  subst hc
                  rw [setS_range hend2 (by rw [← hdr]; exact hns) hrg]
                  simp only [Option.isSome_some, if_true]
                  rw [List.drop_drop, show k - k0 + 3 = k + 3 - k0 by omega]
                | none =>
                  rw [hrg] at hc
                  subst hc
                  rw [setS_one hend2 (by rw [← hdr]; exact hns) hrg]
                  simp only [Option.isSome_none, Bool.false_eq_true, if_false]
                  rw [show k - k0 + 1 = k + 1 - k0 by omega]
              have HONE := Lib.hid hone
              have HX := Lib.hid hx
              clear hr1 hdr hx hb HR0 hns hN hend hend2 D2 hone
              by_cases h2 : k + 2 < n
              · obtain ⟨y, hy⟩ : ∃ y, l[k + 1]? = some y := ⟨_, List.getElem?_eq_getElem (by rw [← HN.out]; omega)⟩
                obtain ⟨z, hzz⟩ : ∃ z, l[k + 2]? = some z := ⟨_, List.getElem?_eq_getElem (by rw [← HN.out]; omega)⟩
                have hd1 : l.drop (k + 1) = y :: z :: l.drop (k + 3) := by rw [drop_cons hy, drop_cons hzz]
                obtain ⟨q2, hq2⟩ : ∃ r, isb y 45 = r := ⟨_, rfl⟩
                obtain ⟨q3, hq3⟩ : ∃ r, isb z 93 = r := ⟨_, rfl⟩
                have E2 := Lib.hid (fun W hW => CI.out W hW (k + 1) 45 45 q2 rfl (by omega) ((isAtL_some hy _).trans hq2))
                have E3 := Lib.hid (fun W hW => CI.out W hW (k + 2) 93 93 q3 rfl (by omega) ((isAtL_some hzz _).trans hq3))
                rw [show (((k + 1 : Nat)) : Int) = (k : Int) + 1 by omega] at E2
                rw [show (((k + 2 : Nat)) : Int) = (k : Int) + 1 + 1 by omega] at E3
                have hrg : rangeS (l.drop (k + 1)) = if q2 && !q3 then some z.b else none := by rw [hd1, rangeS, hq2, hq3]
                have HZ := Lib.hid hzz
                have h2' : (k : Int) + 1 + 1 < n := by omega
                have HO := HONE.out
                clear hy hzz hd1 hq2 hq3
                cases q2 with
                | true =>
                  cases q3 with
                  | true =>
                    rw [hrg] at HO
                    have HR2 := Lib.hid (HO x.b rfl)
                    simp at HR2
                    clear HO hrg
                    as_aux_lemma =>
                      have HA : Hid ((sp ++ [(x.b, x.b)]).any (inSpan c) = (fd || inSpan c (x.b, x.b))) := Lib.hid (by rw [List.any_append, HFD.out]; simp)
                      rcases hk5 with rfl | ⟨rfl, rfl⟩
                      all_goals
                        go_wp2_with fail
                        refine D1.out.mono ?_
                        rintro e w' ⟨rfl, rfl⟩
                        go_wp2_with fail
                        refine D2b.out.mono ?_
                        rintro e w1 ⟨rfl, hb1⟩
                        have HB1 := Lib.hid (HB.out.trans (hb1.mono hsz))
                        obtain ⟨b1, o1, i1, hb11, c1⟩ := HEL.out _ HB1.out k x HX.out (k : Int) rfl
                        skip
                        clear hb1
                        cases fd
                        · by_cases g1 : x.b.toNat ≤ c.toNat
                          · by_cases g2 : c.toNat ≤ x.b.toNat
                            · have HA2 : Hid ((sp ++ [(x.b, x.b)]).any (inSpan c) = true) := Lib.hid (by rw [HA.out]; simp [inSpan, UInt8.le_iff_toNat_le, g1, g2])
                              go_wp2_with (go_at_call 24; with_reducible first | (refine (E2.out _ HB1.out).mono ?_; rintro e w' ⟨rfl, rfl⟩) | (refine (E3.out _ HB1.out).mono ?_; rintro e w' ⟨rfl, rfl⟩))
                              go_roundw
                              case rel => exact ⟨k + 1, sp ++ [(x.b, x.b)], false, by omega, by omega, by first | exact rfl | trivial | go_num, by first | (rw [HA2.out]; done) | trivial, by first | exact rfl | trivial, HR2.out, HB1.out⟩
                              case measure => simp [intOf]; omega
                            · have HA2 : Hid ((sp ++ [(x.b, x.b)]).any (inSpan c) = false) := Lib.hid (by rw [HA.out]; simp [inSpan, UInt8.le_iff_toNat_le]; omega)
                              go_wp2_with (go_at_call 24; with_reducible first | (refine (E2.out _ HB1.out).mono ?_; rintro e w' ⟨rfl, rfl⟩) | (refine (E3.out _ HB1.out).mono ?_; rintro e w' ⟨rfl, rfl⟩))
                              go_roundw
                              case rel => exact ⟨k + 1, sp ++ [(x.b, x.b)], false, by omega, by omega, by first | exact rfl | trivial | go_num, by first | (rw [HA2.out]; done) | trivial, by first | exact rfl | trivial, HR2.out, HB1.out⟩
                              case measure => simp [intOf]; omega
                          · have HA2 : Hid ((sp ++ [(x.b, x.b)]).any (inSpan c) = false) := Lib.hid (by rw [HA.out]; simp [inSpan, UInt8.le_iff_toNat_le]; omega)
                            go_wp2_with (go_at_call 24; with_reducible first | (refine (E2.out _ HB1.out).mono ?_; rintro e w' ⟨rfl, rfl⟩) | (refine (E3.out _ HB1.out).mono ?_; rintro e w' ⟨rfl, rfl⟩))
                            go_roundw
                            case rel => exact ⟨k + 1, sp ++ [(x.b, x.b)], false, by omega, by omega, by first | exact rfl | trivial | go_num, by first | (rw [HA2.out]; done) | trivial, by first | exact rfl | trivial, HR2.out, HB1.out⟩
                            case measure => simp [intOf]; omega
                        · have HA2 : Hid ((sp ++ [(x.b, x.b)]).any (inSpan c) = true) := Lib.hid (by rw [HA.out]; rfl)
                          go_wp2_with (go_at_call 24; with_reducible first | (refine (E2.out _ HB1.out).mono ?_; rintro e w' ⟨rfl, rfl⟩) | (refine (E3.out _ HB1.out).mono ?_; rintro e w' ⟨rfl, rfl⟩))
                          go_roundw
                          case rel => exact ⟨k + 1, sp ++ [(x.b, x.b)], false, by omega, by omega, by first | exact rfl | trivial | go_num, by first | (rw [HA2.out]; done) | trivial, by first | exact rfl | trivial, HR2.out, HB1.out⟩
                          case measure => simp [intOf]; omega
                  | false =>
                    rw [hrg] at HO
                    have HR2 := Lib.hid (HO z.b rfl)
                    simp at HR2
                    clear HO hrg
                    as_aux_lemma =>
                      have HA : Hid ((sp ++ [(x.b, z.b)]).any (inSpan c) = (fd || inSpan c (x.b, z.b))) := Lib.hid (by rw [List.any_append, HFD.out]; simp)
                      rcases hk5 with rfl | ⟨rfl, rfl⟩
                      all_goals
                        go_wp2_with fail
                        refine D1.out.mono ?_
                        rintro e w' ⟨rfl, rfl⟩
                        go_wp2_with fail
                        refine D2b.out.mono ?_
                        rintro e w1 ⟨rfl, hb1⟩
                        have HB1 := Lib.hid (HB.out.trans (hb1.mono hsz))
                        obtain ⟨b1, o1, i1, hb11, c1⟩ := HEL.out _ HB1.out k x HX.out (k : Int) rfl
                        obtain ⟨b3, o3, i3, hb3, c3⟩ := HEL.out _ HB1.out (k + 2) z HZ.out ((k : Int) + 1 + 1) (by omega)
                        clear hb1
                        cases fd
                        · by_cases g1 : x.b.toNat ≤ c.toNat
                          · by_cases g2 : c.toNat ≤ z.b.toNat
                            · have HA2 : Hid ((sp ++ [(x.b, z.b)]).any (inSpan c) = true) := Lib.hid (by rw [HA.out]; simp [inSpan, UInt8.le_iff_toNat_le, g1, g2])
                              go_wp2_with (go_at_call 24; with_reducible first | (refine (E2.out _ HB1.out).mono ?_; rintro e w' ⟨rfl, rfl⟩) | (refine (E3.out _ HB1.out).mono ?_; rintro e w' ⟨rfl, rfl⟩))
                              go_roundw
                              case rel => exact ⟨k + 3, sp ++ [(x.b, z.b)], false, by omega, by omega, by first | exact rfl | trivial | go_num, by first | (rw [HA2.out]; done) | trivial, by first | exact rfl | trivial, HR2.out, HB1.out⟩
                              case measure => simp [intOf]; omega
                            · have HA2 : Hid ((sp ++ [(x.b, z.b)]).any (inSpan c) = false) := Lib.hid (by rw [HA.out]; simp [inSpan, UInt8.le_iff_toNat_le]; omega)
                              go_wp2_with (go_at_call 24; with_reducible first | (refine (E2.out _ HB1.out).mono ?_; rintro e w' ⟨rfl, rfl⟩) | (refine (E3.out _ HB1.out).mono ?_; rintro e w' ⟨rfl, rfl⟩))
                              go_roundw
                              case rel => exact ⟨k + 3, sp ++ [(x.b, z.b)], false, by omega, by omega, by first | exact rfl | trivial | go_num, by first | (rw [HA2.out]; done) | trivial, by first | exact rfl | trivial, HR2.out, HB1.out⟩
                              case measure => simp [intOf]; omega
                          · have HA2 : Hid ((sp ++ [(x.b, z.b)]).any (inSpan c) = false) := Lib.hid (by rw [HA.out]; simp [inSpan, UInt8.le_iff_toNat_le]; omega)
                            go_wp2_with (go_at_call 24; with_reducible first | (refine (E2.out _ HB1.out).mono ?_; rintro e w' ⟨rfl, rfl⟩) | (refine (E3.out _ HB1.out).mono ?_; rintro e w' ⟨rfl, rfl⟩))
                            go_roundw
                            case rel => exact ⟨k + 3, sp ++ [(x.b, z.b)], false, by omega, by omega, by first | exact rfl | trivial | go_num, by first | (rw [HA2.out]; done) | trivial, by first | exact rfl | trivial, HR2.out, HB1.out⟩
                            case measure => simp [intOf]; omega
                        · have HA2 : Hid ((sp ++ [(x.b, z.b)]).any (inSpan c) = true) := Lib.hid (by rw [HA.out]; rfl)
                          go_wp2_with (go_at_call 24; with_reducible first | (refine (E2.out _ HB1.out).mono ?_; rintro e w' ⟨rfl, rfl⟩) | (refine (E3.out _ HB1.out).mono ?_; rintro e w' ⟨rfl, rfl⟩))
                          go_roundw
                          case rel => exact ⟨k + 3, sp ++ [(x.b, z.b)], false, by omega, by omega, by first | exact rfl | trivial | go_num, by first | (rw [HA2.out]; done) | trivial, by first | exact rfl | trivial, HR2.out, HB1.out⟩
                          case measure => simp [intOf]; omega
                | false =>
                  rw [hrg] at HO
                  have HR2 := Lib.hid (HO x.b rfl)
                  simp at HR2
                  clear HO hrg E3
                  as_aux_lemma =>
                    have HA : Hid ((sp ++ [(x.b, x.b)]).any (inSpan c) = (fd || inSpan c (x.b, x.b))) := Lib.hid (by rw [List.any_append, HFD.out]; simp)
                    rcases hk5 with rfl | ⟨rfl, rfl⟩
                    all_goals
                      go_wp2_with fail
                      refine D1.out.mono ?_
                      rintro e w' ⟨rfl, rfl⟩
                      go_wp2_with fail
                      refine D2b.out.mono ?_
                      rintro e w1 ⟨rfl, hb1⟩
                      have HB1 := Lib.hid (HB.out.trans (hb1.mono hsz))
                      obtain ⟨b1, o1, i1, hb11, c1⟩ := HEL.out _ HB1.out k x HX.out (k : Int) rfl
                      skip
                      clear hb1
                      cases fd
                      · by_cases g1 : x.b.toNat ≤ c.toNat
                        · by_cases g2 : c.toNat ≤ x.b.toNat
                          · have HA2 : Hid ((sp ++ [(x.b, x.b)]).any (inSpan c) = true) := Lib.hid (by rw [HA.out]; simp [inSpan, UInt8.le_iff_toNat_le, g1, g2])
                            go_wp2_with (go_at_call 24; with_reducible first | (refine (E2.out _ HB1.out).mono ?_; rintro e w' ⟨rfl, rfl⟩) | (refine (E3.out _ HB1.out).mono ?_; rintro e w' ⟨rfl, rfl⟩))
                            go_roundw
                            case rel => exact ⟨k + 1, sp ++ [(x.b, x.b)], false, by omega, by omega, by first | exact rfl | trivial | go_num, by first | (rw [HA2.out]; done) | trivial, by first | exact rfl | trivial, HR2.out, HB1.out⟩
                            case measure => simp [intOf]; omega
                          · have HA2 : Hid ((sp ++ [(x.b, x.b)]).any (inSpan c) = false) := Lib.hid (by rw [HA.out]; simp [inSpan, UInt8.le_iff_toNat_le]; omega)
                            go_wp2_with (go_at_call 24; with_reducible first | (refine (E2.out _ HB1.out).mono ?_; rintro e w' ⟨rfl, rfl⟩) | (refine (E3.out _ HB1.out).mono ?_; rintro e w' ⟨rfl, rfl⟩))
                            go_roundw
                            case rel => exact ⟨k + 1, sp ++ [(x.b, x.b)], false, by omega, by omega, by first | exact rfl | trivial | go_num, by first | (rw [HA2.out]; done) | trivial, by first | exact rfl | trivial, HR2.out, HB1.out⟩
                            case measure => simp [intOf]; omega
                        · have HA2 : Hid ((sp ++ [(x.b, x.b)]).any (inSpan c) = false) := Lib.hid (by rw [HA.out]; simp [inSpan, UInt8.le_iff_toNat_le]; omega)
                          go_wp2_with (go_at_call 24; with_reducible first | (refine (E2.out _ HB1.out).mono ?_; rintro e w' ⟨rfl, rfl⟩) | (refine (E3.out _ HB1.out).mono ?_; rintro e w' ⟨rfl, rfl⟩))
                          go_roundw
                          case rel => exact ⟨k + 1, sp ++ [(x.b, x.b)], false, by omega, by omega, by first | exact rfl | trivial | go_num, by first | (rw [HA2.out]; done) | trivial, by first | exact rfl | trivial, HR2.out, HB1.out⟩
                          case measure => simp [intOf]; omega
                      · have HA2 : Hid ((sp ++ [(x.b, x.b)]).any (inSpan c) = true) := Lib.hid (by rw [HA.out]; rfl)
                        go_wp2_with (go_at_call 24; with_reducible first | (refine (E2.out _ HB1.out).mono ?_; rintro e w' ⟨rfl, rfl⟩) | (refine (E3.out _ HB1.out).mono ?_; rintro e w' ⟨rfl, rfl⟩))
                        go_roundw
                        case rel => exact ⟨k + 1, sp ++ [(x.b, x.b)], false, by omega, by omega, by first | exact rfl | trivial | go_num, by first | (rw [HA2.out]; done) | trivial, by first | exact rfl | trivial, HR2.out, HB1.out⟩
                        case measure => simp [intOf]; omega
              · have hrg : rangeS (l.drop (k + 1)) = none := by
                  cases hrg : rangeS (l.drop (k + 1)) with
                  | none => rfl
                  | some z => have := rangeS_len hrg; rw [List.length_drop, ← HN.out] at this; omega
                have HO := HONE.out
                rw [hrg] at HO
                have HR2 := Lib.hid (HO x.b rfl)
                simp at HR2
                have h2' : ¬ (k : Int) + 1 + 1 < n := by omega
                obtain ⟨q2, hq2⟩ : ∃ r, isAtL l (k + 1) 45 = r := ⟨_, rfl⟩
                have E2 := Lib.hid (fun W hW => CI.out W hW (k + 1) 45 45 q2 rfl (by omega) hq2)
                rw [show (((k + 1 : Nat)) : Int) = (k : Int) + 1 by omega] at E2
                clear HO hrg hq2
                cases q2
                all_goals
                  as_aux_lemma =>
                    have HA : Hid ((sp ++ [(x.b, x.b)]).any (inSpan c) = (fd || inSpan c (x.b, x.b))) := Lib.hid (by rw [List.any_append, HFD.out]; simp)
                    rcases hk5 with rfl | ⟨rfl, rfl⟩
                    all_goals
                      go_wp2_with fail
                      refine D1.out.mono ?_
                      rintro e w' ⟨rfl, rfl⟩
                      go_wp2_with fail
                      refine D2b.out.mono ?_
                      rintro e w1 ⟨rfl, hb1⟩
                      have HB1 := Lib.hid (HB.out.trans (hb1.mono hsz))
                      obtain ⟨b1, o1, i1, hb11, c1⟩ := HEL.out _ HB1.out k x HX.out (k : Int) rfl
                      skip
                      clear hb1
                      cases fd
                      · by_cases g1 : x.b.toNat ≤ c.toNat
                        · by_cases g2 : c.toNat ≤ x.b.toNat
                          · have HA2 : Hid ((sp ++ [(x.b, x.b)]).any (inSpan c) = true) := Lib.hid (by rw [HA.out]; simp [inSpan, UInt8.le_iff_toNat_le, g1, g2])
                            go_wp2_with (go_at_call 24; with_reducible first | (refine (E2.out _ HB1.out).mono ?_; rintro e w' ⟨rfl, rfl⟩) | (refine (E3.out _ HB1.out).mono ?_; rintro e w' ⟨rfl, rfl⟩))
                            go_roundw
                            case rel => exact ⟨k + 1, sp ++ [(x.b, x.b)], false, by omega, by omega, by first | exact rfl | trivial | go_num, by first | (rw [HA2.out]; done) | trivial, by first | exact rfl | trivial, HR2.out, HB1.out⟩
                            case measure => simp [intOf]; omega
                          · have HA2 : Hid ((sp ++ [(x.b, x.b)]).any (inSpan c) = false) := Lib.hid (by rw [HA.out]; simp [inSpan, UInt8.le_iff_toNat_le]; omega)
                            go_wp2_with (go_at_call 24; with_reducible first | (refine (E2.out _ HB1.out).mono ?_; rintro e w' ⟨rfl, rfl⟩) | (refine (E3.out _ HB1.out).mono ?_; rintro e w' ⟨rfl, rfl⟩))
                            go_roundw
                            case rel => exact ⟨k + 1, sp ++ [(x.b, x.b)], false, by omega, by omega, by first | exact rfl | trivial | go_num, by first | (rw [HA2.out]; done) | trivial, by first | exact rfl | trivial, HR2.out, HB1.out⟩
                            case measure => simp [intOf]; omega
                        · have HA2 : Hid ((sp ++ [(x.b, x.b)]).any (inSpan c) = false) := Lib.hid (by rw [HA.out]; simp [inSpan, UInt8.le_iff_toNat_le]; omega)
                          go_wp2_with (go_at_call 24; with_reducible first | (refine (E2.out _ HB1.out).mono ?_; rintro e w' ⟨rfl, rfl⟩) | (refine (E3.out _ HB1.out).mono ?_; rintro e w' ⟨rfl, rfl⟩))
                          go_roundw
                          case rel => exact ⟨k + 1, sp ++ [(x.b, x.b)], false, by omega, by omega, by first | exact rfl | trivial | go_num, by first | (rw [HA2.out]; done) | trivial, by first | exact rfl | trivial, HR2.out, HB1.out⟩
                          case measure => simp [intOf]; omega
                      · have HA2 : Hid ((sp ++ [(x.b, x.b)]).any (inSpan c) = true) := Lib.hid (by rw [HA.out]; rfl)
                        go_wp2_with (go_at_call 24; with_reducible first | (refine (E2.out _ HB1.out).mono ?_; rintro e w' ⟨rfl, rfl⟩) | (refine (E3.out _ HB1.out).mono ?_; rintro e w' ⟨rfl, rfl⟩))
                        go_roundw
                        case rel => exact ⟨k + 1, sp ++ [(x.b, x.b)], false, by omega, by omega, by first | exact rfl | trivial | go_num, by first | (rw [HA2.out]; done) | trivial, by first | exact rfl | trivial, HR2.out, HB1.out⟩
                        case measure => simp [intOf]; omega
        · have hR : R = none := by rw [HRR.out, List.drop_of_length_le (by rw [← HN.out]; omega), setS_nil]
          subst hR
          clear hb HR0
          go_wp2_with fail
          go_ret2
          exact ⟨rfl, HB.out⟩
end Go.Proofs.Ytiacoomeakodnaa
