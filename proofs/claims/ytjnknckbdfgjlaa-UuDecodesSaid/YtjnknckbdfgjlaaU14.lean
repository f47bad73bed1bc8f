/-
  The walk of the reference's bytes.
-/
import Derived.Test.YtjnknckbdfgjlaaU10
namespace Go.Proofs.Ytjnknckbdfgjlaa
open Go.RowKit

theorem six_yes (c : UInt8) (w : World) (h : okC c = true) :
    Calls Try.prog 40 #[.int .u8 (c.toNat : Nat)] w fun e w' => e = .returned (.int .i64 ((sixV c : Nat) : Int)) ∧ w = w' := by
  have := six_any c w
  rwa [sixR, h] at this
theorem six_no (c : UInt8) (w : World) (h : okC c = false) :
    Calls Try.prog 40 #[.int .u8 (c.toNat : Nat)] w fun e w' => e = .returned (.int .i64 (-1)) ∧ w = w' := by
  have := six_any c w
  rwa [sixR, h] at this

theorem OwnB.shape {w : World} {B : Nat} {v : Value} {bl : List UInt8} (h : OwnB w B v bl) : ∃ a cap, v = .slice a bl.length cap := by
  rcases h.form with ⟨rfl, rfl⟩ | ⟨g, cap, rfl, _⟩
  · exact ⟨none, 0, rfl⟩
  · exact ⟨_, cap, rfl⟩

/-- What the reference's bytes answers. -/
def BytesR (o : Option (List UInt8)) (x : ByteArray) (ok : Bool) : Prop := ok = o.isSome ∧ ∀ d, o = some d → x = S d
theorem BytesR.no {o : Option (List UInt8)} (x : ByteArray) (h : o = none) : BytesR o x false := by subst h; exact ⟨rfl, fun d h => by cases h⟩

set_option maxHeartbeats 2000000 in
theorem refBytes_any (s : ByteArray) (w : World) (hs : s.size ≤ 100000) :
    Calls Try.prog 29 #[.string s] w fun e w' => (∃ x ok, e = .returned (.tuple #[.string x, .bool ok]) ∧ BytesR (bytesP (L s)) x ok) ∧ Below w.heap.size w w' := by
  by_cases h0 : L s = []
  · have hb : bytesP (L s) = none := by rw [bytesP, if_neg (fun h => h.1 h0)]
    have e0 : s.toList.isEmpty = true := by rw [isEmpty_L, h0]; rfl
    have HB := Lib.hid hb
    clear h0 hb
    go_enter Try.func29, Try.ntmps29
    go_wp2_with fail
    go_ret2
    exact ⟨⟨_, _, rfl, BytesR.no _ HB.out⟩, Below.refl _ _⟩
  · have e0 : s.toList.isEmpty = false := by rw [isEmpty_L]; simpa using h0
    have hpos : 0 < s.size := List.length_pos_iff.2 h0
    have H0 := Lib.hid h0
    have i0 := run_idx (P := Try.prog) (k := .i64) Try.underlying9 s 0 0 rfl hpos
    obtain ⟨c0, hc0⟩ : ∃ c0, c0 = (L s).getD 0 0 := ⟨_, rfl⟩
    rw [← hc0] at i0
    have HC0 := Lib.hid hc0
    clear h0 hc0
    cases ho : okC c0
    · have hb : bytesP (L s) = none := by rw [bytesP, if_neg (fun h => by have := h.2.1; rw [← HC0.out, ho] at this; cases this)]
      have HB := Lib.hid hb
      have HO := Lib.hid ho
      clear hb ho
      go_enter Try.func29, Try.ntmps29
      go_wp2_with fail
      refine (six_no c0 _ HO.out).mono ?_
      rintro e w' ⟨rfl, rfl⟩
      go_wp2_with fail
      go_ret2
      exact ⟨⟨_, _, rfl, BytesR.no _ HB.out⟩, Below.refl _ _⟩
    · obtain ⟨n, hn⟩ : ∃ n, n = sixV c0 := ⟨_, rfl⟩
      have hn64 : n < 64 := by rw [hn]; exact sixV_lt c0
      have HO := Lib.hid ho
      have HN := Lib.hid hn
      clear ho hn
      by_cases hc1 : n ≤ 45
      · obtain ⟨G, hG⟩ : ∃ G, G = (n + 2) / 3 := ⟨_, rfl⟩
        have hb : bytesP (L s) = if s.size = 1 + G * 4 then (decTo (L s) G).map (·.take n) else none := by
          rw [bytesP, ← HC0.out, ← HN.out, ← hG]
          by_cases h : s.size = 1 + G * 4
          · rw [if_pos ⟨H0.out, HO.out, hc1, h⟩, if_pos h]
          · rw [if_neg (fun k => h k.2.2.2), if_neg h]
        have HB := Lib.hid hb
        have hG2 : n ≤ 3 * G := by omega
        have hG4 : 3 * G ≤ n + 2 := by omega
        clear hb hG
        go_enter Try.func29, Try.ntmps29
        go_wp2_with (go_at_call 40; refine (six_yes c0 _ HO.out).mono ?_; rw [← HN.out]; rintro e w' ⟨rfl, rfl⟩)
        go_loopw [5, 6] (fun v i wr => ∃ (g : Nat) (o : List UInt8), g ≤ G ∧ i = .int .i64 ((4 * g + 1 : Nat) : Int) ∧ OwnB wr w.heap.size v o ∧ decTo (L s) g = some o ∧ Below w.heap.size w wr ∧ 4 * g + 1 ≤ s.size) (fun _ i _ => s.size + 10 - (intOf i).toNat)
        case atStart => exact ⟨0, [], by omega, rfl, OwnB.nil _ _, rfl, Below.refl _ _, by omega⟩
        case round =>
          obtain ⟨g, o, hg, rfl, hown, hdec, hbw, hg1⟩ := hrel
          have hbs := hbw.size
          have hol := decTo_len hdec
          have HD := Lib.hid hdec
          obtain ⟨a0, cap0, rfl⟩ := hown.shape
          rw [hol] at hown ⊢
          clear hdec
          by_cases hlt : g < G
          · have h3g : 3 * g < n := by omega
            by_cases hsz : 4 * g + 5 ≤ s.size
            · obtain ⟨a, ha⟩ : ∃ a, a = (L s).getD (4 * g + 1) 0 := ⟨_, rfl⟩
              obtain ⟨b, hb⟩ : ∃ b, b = (L s).getD (4 * g + 2) 0 := ⟨_, rfl⟩
              obtain ⟨c, hc⟩ : ∃ c, c = (L s).getD (4 * g + 3) 0 := ⟨_, rfl⟩
              obtain ⟨d, hd⟩ : ∃ d, d = (L s).getD (4 * g + 4) 0 := ⟨_, rfl⟩
              have j1 := run_idx (P := Try.prog) (k := .i64) Try.underlying9 s (4 * (g : Int) + 1) (4 * g + 1) (by omega) (by omega)
              have j2 := run_idx (P := Try.prog) (k := .i64) Try.underlying9 s (4 * (g : Int) + 1 + 1) (4 * g + 2) (by omega) (by omega)
              have j3 := run_idx (P := Try.prog) (k := .i64) Try.underlying9 s (4 * (g : Int) + 1 + 2) (4 * g + 3) (by omega) (by omega)
              have j4 := run_idx (P := Try.prog) (k := .i64) Try.underlying9 s (4 * (g : Int) + 1 + 3) (4 * g + 4) (by omega) (by omega)
              rw [← ha] at j1
              rw [← hb] at j2
              rw [← hc] at j3
              rw [← hd] at j4
              have hG : decG (L s) g = if okC a && okC b && okC c && okC d then some (tri a b c d) else none := by rw [decG, ha, hb, hc, hd]
              have HG := Lib.hid hG
              clear ha hb hc hd hG
              have la := sixV_lt a
              have lb := sixV_lt b
              have lc := sixV_lt c
              have ld := sixV_lt d
              cases va : okC a
              · skip
                have hno : bytesP (L s) = none := by rw [HB.out, decTo_none (show decG (L s) g = none by rw [HG.out]; simp [va]) G hlt]; simp
                have HNO := Lib.hid hno
                clear hno
                go_wp2_with fail
                refine wp_loop_rounds 5 ?_
                repeat any_goals (rw [rounds_succ]; go_wp2_with (go_at_call 40; first | (with_reducible refine (six_yes _ _ (by assumption)).mono ?_; rintro e w' ⟨rfl, rfl⟩) | (with_reducible refine (six_no _ _ (by assumption)).mono ?_; rintro e w' ⟨rfl, rfl⟩)))
                go_ret2
                exact ⟨⟨_, _, rfl, BytesR.no _ HNO.out⟩, hbw⟩
              · cases vb : okC b
                · skip
                  have hno : bytesP (L s) = none := by rw [HB.out, decTo_none (show decG (L s) g = none by rw [HG.out]; simp [va, vb]) G hlt]; simp
                  have HNO := Lib.hid hno
                  clear hno
                  go_wp2_with fail
                  refine wp_loop_rounds 5 ?_
                  repeat any_goals (rw [rounds_succ]; go_wp2_with (go_at_call 40; first | (with_reducible refine (six_yes _ _ (by assumption)).mono ?_; rintro e w' ⟨rfl, rfl⟩) | (with_reducible refine (six_no _ _ (by assumption)).mono ?_; rintro e w' ⟨rfl, rfl⟩)))
                  go_ret2
                  exact ⟨⟨_, _, rfl, BytesR.no _ HNO.out⟩, hbw⟩
                · cases vc : okC c
                  · skip
                    have hno : bytesP (L s) = none := by rw [HB.out, decTo_none (show decG (L s) g = none by rw [HG.out]; simp [va, vb, vc]) G hlt]; simp
                    have HNO := Lib.hid hno
                    clear hno
                    go_wp2_with fail
                    refine wp_loop_rounds 5 ?_
                    repeat any_goals (rw [rounds_succ]; go_wp2_with (go_at_call 40; first | (with_reducible refine (six_yes _ _ (by assumption)).mono ?_; rintro e w' ⟨rfl, rfl⟩) | (with_reducible refine (six_no _ _ (by assumption)).mono ?_; rintro e w' ⟨rfl, rfl⟩)))
                    go_ret2
                    exact ⟨⟨_, _, rfl, BytesR.no _ HNO.out⟩, hbw⟩
                  · cases vd : okC d
                    · skip
                      have hno : bytesP (L s) = none := by rw [HB.out, decTo_none (show decG (L s) g = none by rw [HG.out]; simp [va, vb, vc, vd]) G hlt]; simp
                      have HNO := Lib.hid hno
                      clear hno
                      go_wp2_with fail
                      refine wp_loop_rounds 5 ?_
                      repeat any_goals (rw [rounds_succ]; go_wp2_with (go_at_call 40; first | (with_reducible refine (six_yes _ _ (by assumption)).mono ?_; rintro e w' ⟨rfl, rfl⟩) | (with_reducible refine (six_no _ _ (by assumption)).mono ?_; rintro e w' ⟨rfl, rfl⟩)))
                      go_ret2
                      exact ⟨⟨_, _, rfl, BytesR.no _ HNO.out⟩, hbw⟩
                    · obtain ⟨V, hV⟩ : ∃ V, V = ((sixV a * 64 + sixV b) * 64 + sixV c) * 64 + sixV d := ⟨_, rfl⟩
                      have hv : 64 * (64 * (64 * ((sixV a : Nat) : Int) + ((sixV b : Nat) : Int)) + ((sixV c : Nat) : Int)) + ((sixV d : Nat) : Int) = (V : Int) := by omega
                      have hV2 : V < 16777216 := by omega
                      have ht : tri a b c d = [UInt8.ofNat (V / 65536), UInt8.ofNat (V / 256 % 256), UInt8.ofNat (V % 256)] := by rw [tri, ← hV]
                      have HTR := Lib.hid ht
                      clear hV ht
                      go_wp2_with fail
                      refine wp_loop_rounds 5 ?_
                      repeat any_goals (rw [rounds_succ]; go_wp2_with (first | (go_at_call 40; with_reducible refine (six_yes _ _ (by assumption)).mono ?_; rintro e w' ⟨rfl, rfl⟩) | (at_builtin; go_must (refine append_bytes rfl _ _ rfl rfl (OwnB.alloc (by assumption) _) [UInt8.ofNat (V / 65536), UInt8.ofNat (V / 256 % 256), UInt8.ofNat (V % 256)] rfl rfl (cells3 _ _ _ _ _ _ _ _ (by first | (simp; done) | (simp; omega)) (by first | (simp; done) | (simp; omega)) (by first | (simp; done) | (simp; omega))) (by omega) (Below.alloc (by assumption) (by assumption) _) (by simp; omega) ?_); intro v1 w1 hown1 hb1 hs1)))
                      go_roundw
                      case rel => exact ⟨g + 1, _, by omega, by go_num, by assumption, by rw [decTo, HD.out]; simp [HG.out, va, vb, vc, vd, HTR.out], by assumption, by omega⟩
                      case measure => simp [intOf]; omega
            · have hno : bytesP (L s) = none := by rw [HB.out, if_neg (by omega)]
              have HNO := Lib.hid hno
              clear hno
              go_wp2_with fail
              go_ret2
              exact ⟨⟨_, _, rfl, BytesR.no _ HNO.out⟩, hbw⟩
          · obtain rfl : g = G := by omega
            have h3g : n ≤ 3 * g := by omega
            have hfin : BytesR (bytesP (L s)) (S (o.take n)) (4 * (g : Int) + 1 == (s.size : Int)) := by
              rw [HB.out]
              by_cases h : s.size = 1 + g * 4
              · rw [if_pos h, HD.out]
                exact ⟨by rw [Option.map_some, Option.isSome_some, beq_iff_eq]; omega, fun d hd => by simp at hd; rw [hd]⟩
              · rw [if_neg h]
                exact ⟨by rw [Option.isSome_none, beq_eq_false_iff_ne]; omega, fun d hd => by cases hd⟩
            have HFIN := Lib.hid hfin
            clear hfin
            rcases hown.form with ⟨hv0, rfl⟩ | ⟨gb, cap, hv0, _, _, hcap, hba⟩
            · have hn0 : n = 0 := by simp at hol; omega
              have hg0 : g = 0 := by simp at hol; omega
              subst hn0 hg0
              have hcn : ∀ w : World, (convert 38 9 (.slice none 0 0)).run Try.prog w = .ok (.string ByteArray.empty) w := fun w => run_convert_bytes_nil w _ _ Try.underlying38 Try.underlying5 _ _ _ Try.underlying9
              rw [hv0]
              clear hv0 hown
              go_wp2_with fail
              go_ret2
              exact ⟨⟨_, _, rfl, HFIN.out⟩, hbw⟩
            · have hcb : cellBytes wr gb 0 n = some (o.take n) := by
                have := cellBytes_of (o.take n) 0 (fun j hj => by
                  have hj' : j < n ∧ j < o.length := by rw [List.length_take] at hj; omega
                  rw [Nat.zero_add, (hba j hj'.2).1]
                  simp [List.getD, hj'.1])
                rwa [List.length_take, Nat.min_eq_left (by omega)] at this
              rw [hol] at hv0 hcap
              have hcap' : n ≤ cap := by omega
              rw [hv0]
              clear hol hba hv0 hown
              go_wp2_with fail
              go_ret2
              exact ⟨⟨_, _, rfl, HFIN.out⟩, hbw⟩
      · have hb : bytesP (L s) = none := by
          rw [bytesP, if_neg (fun h => by rw [← HC0.out, ← HN.out] at h; exact hc1 h.2.2.1)]
        have HB := Lib.hid hb
        clear hb
        go_enter Try.func29, Try.ntmps29
        go_wp2_with (go_at_call 40; refine (six_yes c0 _ HO.out).mono ?_; rw [← HN.out]; rintro e w' ⟨rfl, rfl⟩)
        go_ret2
        exact ⟨⟨_, _, rfl, BytesR.no _ HB.out⟩, Below.refl _ _⟩
end Go.Proofs.Ytjnknckbdfgjlaa
