/-
  The document's Match: the walk.
-/
import Derived.Test.YtiacoomeakodnaaG19
namespace Go.Proofs.Ytiacoomeakodnaa
open Go.RowKit

theorem setP_kind {l : List Sg} {p : Pt} {m : Nat} (h : setP l = some (p, m)) : p.kind = 91 := by
  rw [setP_of rfl] at h
  obtain ⟨x, _, hx⟩ := Option.map_eq_some_iff.1 h
  cases hx; rfl
theorem isb_b {x : Sg} {b : UInt8} (h : isb x b = true) : x.b = b := by
  unfold isb at h
  simp at h
  exact h.2
/-- A sign that is no star. -/
theorem match_one {x : Sg} {t : List Sg} (h42 : isb x 42 = false) (s : List UInt8) : matchP (comp (x :: t)) s = match s with
    | [] => false
    | c :: s' => if isb x 63 then matchP (comp t) s' else match (if isb x 91 then setP t else none) with
      | some (p, m) => fitsP p c && matchP (comp (t.drop m)) s'
      | none => x.b == c && matchP (comp t) s' := by
  cases h63 : isb x 63 with
  | true =>
    rw [comp_sign (by rw [h63]; rfl)]
    have hk : x.b ≠ 42 := by rw [isb_b h63]; decide
    cases s with
    | nil => exact matchP_end (p := ⟨x.b, 0, false, []⟩) hk
    | cons c s =>
      rw [matchP_cons (p := ⟨x.b, 0, false, []⟩) hk]
      show ((if x.b = 98 then _ else if x.b = 63 then true else _) && _) = _
      rw [isb_b h63]; rfl
  | false =>
    have h2 : (isb x 63 || isb x 42) = false := by rw [h63, h42]; rfl
    have hbyte : (isb x 91 = true → setP t = none) → matchP (comp (x :: t)) s = match s with
        | [] => false
        | c :: s' => x.b == c && matchP (comp t) s' := fun h => by
      rw [comp_byte h2 h]
      cases s with
      | nil => exact matchP_end (p := ⟨98, x.b, false, []⟩) (fun h => by cases h)
      | cons c s => exact matchP_cons (p := ⟨98, x.b, false, []⟩) (fun h => by cases h)
    cases h91 : isb x 91 with
    | false =>
      rw [hbyte (fun h => by rw [h91] at h; cases h)]
      cases s <;> rfl
    | true =>
      cases hs : setP t with
      | none =>
        rw [hbyte (fun _ => hs)]
        cases s <;> simp
      | some y =>
        obtain ⟨p, m⟩ := y
        rw [comp_set h91 hs]
        have hk : p.kind ≠ 42 := by rw [setP_kind hs]; decide
        cases s with
        | nil => exact matchP_end hk
        | cons c s => rw [matchP_cons hk]; simp

set_option maxHeartbeats 4000000 in
set_option maxRecDepth 100000 in
theorem rmatch_any (l : List Sg) (v : Value) (hn : l.length ≤ 100000) : ∀ (d k : Nat) (s : ByteArray) (w : World), l.length - k ≤ d → k ≤ l.length → s.size ≤ 100000 → Sl w w.heap.size 2 v l.length (l.flatMap sgC) →
    Calls Try.prog 13 #[v, .int .i64 (k : Int), .string s] w fun e w' => e = .returned (.bool (matchP (comp (l.drop k)) (L s))) ∧ Below w.heap.size w w'
  | d, k, s, w, hd, hk, hs, hl => by
    have IH : Hid (∀ W, Below w.heap.size w W → ∀ (k' : Nat) (s' : ByteArray), k < k' → k' ≤ l.length → s'.size ≤ 100000 → Calls Try.prog 13 #[v, .int .i64 (k' : Int), .string s'] W fun e w' => e = .returned (.bool (matchP (comp (l.drop k')) (L s'))) ∧ Below W.heap.size W w') := Lib.hid fun W hW k' s' h1 h2 h3 => by
      cases d with
      | zero => omega
      | succ d => exact rmatch_any l v hn d k' s' W (by omega) h2 h3 ((hl.below hW).mono hW.size)
    have CI : Hid (∀ W, Below w.heap.size w W → ∀ (k : Nat) (b : UInt8) (c : Int) (r : Bool), c = ((b.toNat : Nat) : Int) → k ≤ 100010 → isAtL l k b = r → Calls Try.prog 24 #[v, .int .i64 (k : Int), .int .u8 c] W fun e w' => e = .returned (.bool r) ∧ W = w') := Lib.hid fun W hW k b c r hc hk hr => by
      rw [← hr, hc]; exact ris_any l v k b W ((hl.below hW).mono hW.size) (by omega)
    have CS : Hid (∀ W, Below w.heap.size w W → ∀ (k : Nat) (c : UInt8), k ≤ l.length → Calls Try.prog 25 #[v, .int .i64 (k : Int), .int .u8 ((c.toNat : Nat) : Int)] W (SetAt ((setP (l.drop k)).map fun x => (fitsP x.1 c, x.2)) k W)) := Lib.hid fun W hW k c hk => rset_any l v k c W ((hl.below hW).mono hW.size) hn hk
    obtain ⟨R, hR⟩ : ∃ R, R = matchP (comp (l.drop k)) (L s) := ⟨_, rfl⟩
    rw [← hR]
    obtain ⟨n, hnl⟩ : ∃ n, n = l.length := ⟨_, rfl⟩
    rw [← hnl] at hk hn
    have HL := Lib.hid hl
    rw [← hnl] at hl
    obtain ⟨a, cap, rfl⟩ : ∃ a cap, v = .slice a n cap := by
      obtain ⟨_, a, cap, h, _⟩ := hl
      exact ⟨a, cap, h⟩
    have HN := Lib.hid hnl
    have HR := Lib.hid hR
    rw [← hnl] at IH CS
    clear hl hnl hR hd
    by_cases hkn : k < n
    · obtain ⟨x, hx⟩ : ∃ x, l[k]? = some x := ⟨_, List.getElem?_eq_getElem (by rw [← HN.out]; omega)⟩
      have hdr := drop_cons hx
      obtain ⟨T, hT⟩ : ∃ T, T = l.drop (k + 1) := ⟨_, rfl⟩
      rw [← hT] at hdr
      rw [hdr] at HR
      obtain ⟨q42, h42⟩ : ∃ r, isb x 42 = r := ⟨_, rfl⟩
      have D1 := Lib.hid (CI.out w (Below.refl _ _) k 42 42 q42 rfl (by omega) ((isAtL_some hx _).trans h42))
      have IH1 : Hid (∀ W, Below w.heap.size w W → ∀ (s' : ByteArray) (r : Bool), s'.size ≤ 100000 → matchP (comp T) (L s') = r → Calls Try.prog 13 #[.slice a n cap, .int .i64 ((k : Int) + 1), .string s'] W fun e w' => e = .returned (.bool r) ∧ Below W.heap.size W w') := Lib.hid fun W hW s' r h1 h2 => by
        have h := IH.out W hW (k + 1) s' (by omega) (by omega) h1
        rw [← hT, h2, show (((k + 1 : Nat)) : Int) = (k : Int) + 1 by omega] at h
        exact h
      have HT := Lib.hid hT
      have HX := Lib.hid hx
      cases q42 with
      | true =>
        have hRR : R = anyT (matchP (comp T)) (L s) := by
          rw [HR.out, comp_sign (by rw [h42]; simp), matchP_star (p := ⟨x.b, 0, false, []⟩) (isb_b h42)]
        have HRR := Lib.hid hRR
        clear hx hdr hT h42 hRR HR IH CS CI
        go_enter Try.func13, Try.ntmps13
        go_wp2_with fail
        refine D1.out.mono ?_
        rintro e w' ⟨rfl, rfl⟩
        go_wp2_with fail
        go_loopw [7] (fun i wr => ∃ j : Nat, j ≤ s.size + 1 ∧ i = .int .i64 j ∧ (∀ i, i < j → matchP (comp T) ((L s).drop i) = false) ∧ Below w.heap.size w wr) (fun i _ => s.size + 1 - (intOf i).toNat)
        case atStart => exact ⟨0, Nat.zero_le _, rfl, fun i h => by omega, Below.refl _ _⟩
        case round =>
          obtain ⟨j, hj, rfl, hno, hb⟩ := hrel
          have HB := Lib.hid hb
          have HNO := Lib.hid hno
          have hsz := hb.size
          clear hno hb
          by_cases hlt : j ≤ s.size
          · obtain ⟨r, hr⟩ : ∃ r, matchP (comp T) ((L s).drop j) = r := ⟨_, rfl⟩
            have E1 := Lib.hid (IH1.out wr HB.out (s.extract j s.size) r (by have := extract_len s j s.size; omega) (by rw [S_extract_from, L_S, hr]))
            have HRJ := Lib.hid hr
            clear hr
            cases r with
            | true =>
              have hR : R = true := by rw [HRR.out, anyT_iff]; exact ⟨j, by rw [L_size]; exact hlt, HRJ.out⟩
              subst hR
              clear HRR
              go_wp2_with fail
              refine E1.out.mono ?_
              rintro e w1 ⟨rfl, hb1⟩
              have HB1 := Lib.hid (HB.out.trans (hb1.mono hsz))
              clear hb1
              go_wp2
              go_ret
              exact ⟨rfl, HB1.out⟩
            | false =>
              go_wp2_with fail
              refine E1.out.mono ?_
              rintro e w1 ⟨rfl, hb1⟩
              have HB1 := Lib.hid (HB.out.trans (hb1.mono hsz))
              clear hb1
              go_wp2
              go_roundw
              case rel => exact ⟨j + 1, by omega, by go_num, fun i h => by
                by_cases e : i = j
                · subst e; exact HRJ.out
                · exact HNO.out i (by omega), HB1.out⟩
              case measure => simp [intOf]; omega
          · have hR : R = false := by
              rw [HRR.out, Bool.eq_false_iff]
              intro h
              obtain ⟨i, hi, h2⟩ := (anyT_iff _ _).1 h
              rw [L_size] at hi
              rw [HNO.out i (by omega)] at h2; cases h2
            subst hR
            clear HRR HNO
            go_wp2
            go_ret
            exact ⟨rfl, HB.out⟩
      | false =>
        have hRR := HR.out
        rw [match_one h42] at hRR
        clear h42 HR
        by_cases hse : s.size = 0
        · have hse2 : L s = [] := List.length_eq_zero_iff.1 hse
          have he : s.toList.isEmpty = true := by rw [toList_L, hse2]; rfl
          rw [hse2] at hRR
          have hR : R = false := hRR
          subst hR
          clear hRR hse2 hse hx hdr hT IH CS CI
          go_enter Try.func13, Try.ntmps13
          go_wp2_with fail
          refine D1.out.mono ?_
          rintro e w' ⟨rfl, rfl⟩
          go_wp2_with fail
          go_ret
          exact ⟨rfl, Below.refl _ _⟩
        · obtain ⟨c, s', hcs⟩ : ∃ c s', L s = c :: s' := by
            cases h : L s with
            | nil => exact absurd (congrArg List.length h) hse
            | cons c s' => exact ⟨c, s', rfl⟩
          have he : s.toList.isEmpty = false := by rw [toList_L, hcs]; rfl
          have hs1 : 0 < s.size := by omega
          have hidx : ∀ w' : World, (Instr.index 9 (.string s) (.int .i64 0)).run Try.prog w' = .ok (.int .u8 ((c.toNat : Nat) : Int)) w' := fun w' => by
            have h := run_idx (P := Try.prog) Try.underlying9 s (k := .i64) 0 0 rfl hs1 w'
            rw [hcs] at h
            exact h
          have hs' : L (s.extract 1 s.size) = s' := by rw [S_extract_from, L_S, hcs]; rfl
          have hsl : ∀ w' : World, (Instr.slice 9 (.string s) (some (.int .i64 1)) none none).run Try.prog w' = .ok (.string (s.extract 1 s.size)) w' := fun w' => run_sl_from Try.underlying9 s 1 1 rfl (by omega) w'
          have hes : (s.extract 1 s.size).size ≤ 100000 := by have := extract_len s 1 s.size; omega
          rw [hcs] at hRR
          obtain ⟨q63, h63⟩ : ∃ r, isb x 63 = r := ⟨_, rfl⟩
          obtain ⟨q91, h91⟩ : ∃ r, isb x 91 = r := ⟨_, rfl⟩
          have D2 := Lib.hid (CI.out w (Below.refl _ _) k 63 63 q63 rfl (by omega) ((isAtL_some hx _).trans h63))
          have D3 := Lib.hid (CI.out w (Below.refl _ _) k 91 91 q91 rfl (by omega) ((isAtL_some hx _).trans h91))
          rw [h63, h91] at hRR
          have HRR := Lib.hid hRR
          have HS' := Lib.hid hs'
          clear hRR hcs hs' hx hdr hT h63 h91 hse CI
          cases q63 with
          | true =>
            have hR : matchP (comp T) (L (s.extract 1 s.size)) = R := by rw [HRR.out, HS'.out]; rfl
            have E1 := Lib.hid (IH1.out w (Below.refl _ _) (s.extract 1 s.size) R hes hR)
            clear hR HRR HS' IH CS
            go_enter Try.func13, Try.ntmps13
            go_wp2_with fail
            refine D1.out.mono ?_
            rintro e w' ⟨rfl, rfl⟩
            go_wp2_with fail
            refine D2.out.mono ?_
            rintro e w' ⟨rfl, rfl⟩
            go_wp2_with fail
            refine E1.out.mono ?_
            rintro e w1 ⟨rfl, hb1⟩
            go_wp2_with fail
            go_ret
            exact ⟨rfl, hb1⟩
          | false =>
            cases q91 with
            | false =>
              have hR2 : R = (x.b == c && matchP (comp T) s') := HRR.out
              have HBX := Lib.hid (Below.refl w.heap.size w)
              clear HRR IH CS
              go_enter Try.func13, Try.ntmps13
              go_wp2_with fail
              refine D1.out.mono ?_
              rintro e w' ⟨rfl, rfl⟩
              go_wp2_with fail
              refine D2.out.mono ?_
              rintro e w' ⟨rfl, rfl⟩
              go_wp2_with fail
              refine D3.out.mono ?_
              rintro e w' ⟨rfl, rfl⟩
              go_wp2_with fail
              -- what follows the sign itself, in the world wx
              obtain ⟨b1, o1, i1, hb1, c1, d1⟩ := rsg_at (HL.out.below HBX.out) HX.out (k : Int) rfl
              have hb1' : b1 < w.heap.size := Nat.lt_of_lt_of_le hb1 HBX.out.size
              have hcg : ∀ d os, (Sort.grow (redrawn w d) os).cell? ⟨b1, o1, none⟩ = some (.int .u8 ((x.b.toNat : Nat) : Int)) := fun d os => cell_regrown c1 d os
              obtain ⟨r, hr⟩ : ∃ r, (x.b == c) = r := ⟨_, rfl⟩
              have hbb := beq_byte x.b c
              rw [hr] at hbb
              rw [hr] at hR2
              obtain ⟨mr, hmr⟩ : ∃ mr, matchP (comp T) s' = mr := ⟨_, rfl⟩
              rw [hmr] at hR2
              have CF : Hid (∀ d os, Calls Try.prog 13 #[.slice a n cap, .int .i64 ((k : Int) + 1), .string (s.extract 1 s.size)] (Sort.grow (redrawn w d) os) fun e w'' => e = .returned (.bool mr) ∧ ∃ q : Regrown, w'' = Sort.grow (redrawn w q.d) q.os) := Lib.hid fun d os =>
                Calls.regrown_of (IH1.out _ (HBX.out.trans ((below_regrown w d os).mono HBX.out.size)) _ _ hes (by rw [HS'.out, hmr]))
              have hwr : IntKind.i64.wrap ((k : Int) + 1) = (k : Int) + 1 := wrap_in _ (by omega)
              have HR2 := Lib.hid hR2
              clear hr hmr hR2 c1 d1
              cases r
              all_goals
                refine wp_region_quiet_below (by kernel_rfl) (by kernel_rfl) ?_
                repeat (go_big_quiet_step (with_reducible first | exact CF.out _ _))
                refine wpQuiet_nil ?_
                intro _ hw'
                obtain ⟨⟨dq, osq⟩, hw''⟩ := hw'
                subst hw''
                have HBQ := Lib.hid (HBX.out.trans ((below_regrown w dq osq).mono HBX.out.size))
                clear hcg hwr
                go_wp2
                go_ret
                exact ⟨ret_bool (by rw [HR2.out]; simp), HBQ.out⟩
            | true =>
              have hRR := HRR.out
              obtain ⟨o, ho⟩ : ∃ o, setP T = o := ⟨_, rfl⟩
              have E3 := Lib.hid (CS.out w (Below.refl _ _) (k + 1) c (by omega))
              rw [← HT.out, ho, show (((k + 1 : Nat)) : Int) = (k : Int) + 1 by omega] at E3
              change R = (match setP T with
                | some (p, m) => fitsP p c && matchP (comp (T.drop m)) s'
                | none => x.b == c && matchP (comp T) s') at hRR
              rw [ho] at hRR
              cases o with
              | none =>
                have hR2 : R = (x.b == c && matchP (comp T) s') := hRR
                have E4 : Hid (Calls Try.prog 25 #[.slice a n cap, .int .i64 ((k : Int) + 1), .int .u8 ((c.toNat : Nat) : Int)] w fun e w' => e = .returned (.tuple #[.bool false, .int .i64 (-1)]) ∧ Below w.heap.size w w') := Lib.hid E3.out
                clear HRR hRR ho E3 IH CS
                go_enter Try.func13, Try.ntmps13
                go_wp2_with fail
                refine D1.out.mono ?_
                rintro e w' ⟨rfl, rfl⟩
                go_wp2_with fail
                refine D2.out.mono ?_
                rintro e w' ⟨rfl, rfl⟩
                go_wp2_with fail
                refine D3.out.mono ?_
                rintro e w' ⟨rfl, rfl⟩
                go_wp2_with fail
                refine E4.out.mono ?_
                rintro e w1 ⟨rfl, hbx⟩
                have HBX := Lib.hid hbx
                clear hbx
                go_wp2_with fail
                -- what follows the sign itself, in the world wx
                obtain ⟨b1, o1, i1, hb1, c1, d1⟩ := rsg_at (HL.out.below HBX.out) HX.out (k : Int) rfl
                have hb1' : b1 < w1.heap.size := Nat.lt_of_lt_of_le hb1 HBX.out.size
                have hcg : ∀ d os, (Sort.grow (redrawn w1 d) os).cell? ⟨b1, o1, none⟩ = some (.int .u8 ((x.b.toNat : Nat) : Int)) := fun d os => cell_regrown c1 d os
                obtain ⟨r, hr⟩ : ∃ r, (x.b == c) = r := ⟨_, rfl⟩
                have hbb := beq_byte x.b c
                rw [hr] at hbb
                rw [hr] at hR2
                obtain ⟨mr, hmr⟩ : ∃ mr, matchP (comp T) s' = mr := ⟨_, rfl⟩
                rw [hmr] at hR2
                have CF : Hid (∀ d os, Calls Try.prog 13 #[.slice a n cap, .int .i64 ((k : Int) + 1), .string (s.extract 1 s.size)] (Sort.grow (redrawn w1 d) os) fun e w'' => e = .returned (.bool mr) ∧ ∃ q : Regrown, w'' = Sort.grow (redrawn w1 q.d) q.os) := Lib.hid fun d os =>
                  Calls.regrown_of (IH1.out _ (HBX.out.trans ((below_regrown w1 d os).mono HBX.out.size)) _ _ hes (by rw [HS'.out, hmr]))
                have hwr : IntKind.i64.wrap ((k : Int) + 1) = (k : Int) + 1 := wrap_in _ (by omega)
                have HR2 := Lib.hid hR2
                clear hr hmr hR2 c1 d1
                cases r
                all_goals
                  refine wp_region_quiet_below (by kernel_rfl) (by kernel_rfl) ?_
                  repeat (go_big_quiet_step (with_reducible first | exact CF.out _ _))
                  refine wpQuiet_nil ?_
                  intro _ hw'
                  obtain ⟨⟨dq, osq⟩, hw''⟩ := hw'
                  subst hw''
                  have HBQ := Lib.hid (HBX.out.trans ((below_regrown w1 dq osq).mono HBX.out.size))
                  clear hcg hwr
                  go_wp2
                  go_ret
                  exact ⟨ret_bool (by rw [HR2.out]; simp), HBQ.out⟩
              | some pm =>
                obtain ⟨p, m⟩ := pm
                have hm := setP_gt ho
                rw [HT.out, List.length_drop, ← HN.out] at hm
                have hR2 : R = (fitsP p c && matchP (comp (T.drop m)) s') := hRR
                obtain ⟨f, hf⟩ : ∃ f, fitsP p c = f := ⟨_, rfl⟩
                obtain ⟨mr, hmr⟩ : ∃ mr, matchP (comp (T.drop m)) s' = mr := ⟨_, rfl⟩
                have hkm : k + 1 + m ≤ n := by omega
                have E4 : Hid (Calls Try.prog 25 #[.slice a n cap, .int .i64 ((k : Int) + 1), .int .u8 ((c.toNat : Nat) : Int)] w fun e w' => e = .returned (.tuple #[.bool f, .int .i64 (((k + 1 + m : Nat)) : Int)]) ∧ Below w.heap.size w w') := Lib.hid (by
                  rw [← hf]; exact E3.out)
                have E5 : Hid (∀ W, Below w.heap.size w W → Calls Try.prog 13 #[.slice a n cap, .int .i64 (((k + 1 + m : Nat)) : Int), .string (s.extract 1 s.size)] W fun e w' => e = .returned (.bool mr) ∧ Below W.heap.size W w') := Lib.hid fun W hW => by
                  have h := IH.out W hW (k + 1 + m) (s.extract 1 s.size) (by omega) hkm hes
                  rw [HS'.out, show l.drop (k + 1 + m) = T.drop m by rw [HT.out, List.drop_drop], hmr] at h
                  exact h
                rw [hf, hmr] at hR2
                have HR2 := Lib.hid hR2
                clear HRR hRR ho E3 IH CS hm hf hmr hR2 HS'
                cases f with
                | false =>
                  go_enter Try.func13, Try.ntmps13
                  go_wp2_with fail
                  refine D1.out.mono ?_
                  rintro e w' ⟨rfl, rfl⟩
                  go_wp2_with fail
                  refine D2.out.mono ?_
                  rintro e w' ⟨rfl, rfl⟩
                  go_wp2_with fail
                  refine D3.out.mono ?_
                  rintro e w' ⟨rfl, rfl⟩
                  go_wp2_with fail
                  refine E4.out.mono ?_
                  rintro e w1 ⟨rfl, hbx⟩
                  go_wp2_with fail
                  go_ret
                  exact ⟨ret_bool (by rw [HR2.out]; rfl), hbx⟩
                | true =>
                  go_enter Try.func13, Try.ntmps13
                  go_wp2_with fail
                  refine D1.out.mono ?_
                  rintro e w' ⟨rfl, rfl⟩
                  go_wp2_with fail
                  refine D2.out.mono ?_
                  rintro e w' ⟨rfl, rfl⟩
                  go_wp2_with fail
                  refine D3.out.mono ?_
                  rintro e w' ⟨rfl, rfl⟩
                  go_wp2_with fail
                  refine E4.out.mono ?_
                  rintro e w1 ⟨rfl, hbx⟩
                  have HBX := Lib.hid hbx
                  clear hbx
                  go_wp2_with fail
                  refine (E5.out _ HBX.out).mono ?_
                  rintro e w2 ⟨rfl, hb2⟩
                  have HB2 := Lib.hid (HBX.out.trans (hb2.mono HBX.out.size))
                  clear hb2
                  go_wp2_with fail
                  go_ret
                  exact ⟨ret_bool (by rw [HR2.out]; rfl), HB2.out⟩
    · obtain rfl : k = n := by omega
      have hR : s.toList.isEmpty = R := by rw [HR.out, List.drop_of_length_le (by rw [← HN.out]; omega), comp_nil, matchP_nil, toList_L]
      clear HR IH CS CI
      go_enter Try.func13, Try.ntmps13
      go_wp2
      go_ret
      exact ⟨rfl, Below.refl _ _⟩
end Go.Proofs.Ytiacoomeakodnaa
