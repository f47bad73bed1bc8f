/-
  Match: the walk.
-/
import Derived.Test.YtiacoomeakodnaaG10
import Derived.Test.YtiacoomeakodnaaSt
namespace Go.Proofs.Ytiacoomeakodnaa
open Go.RowKit

theorem pat_mu {S n mark k mark' k' : Nat} (hk : k' ≤ n) (h : (mark ≤ mark' ∧ k < k') ∨ (mark < mark' ∧ mark < S)) : (S - mark') * (n + 1) + (n - k') < (S - mark) * (n + 1) + (n - k) := by
  rcases h with ⟨h1, h2⟩ | ⟨h1, h2⟩
  · have := Nat.mul_le_mul_right (n + 1) (show S - mark' ≤ S - mark by omega)
    omega
  · have h3 := Nat.mul_le_mul_right (n + 1) (show S - mark' + 1 ≤ S - mark by omega)
    rw [Nat.succ_mul] at h3
    omega

set_option maxHeartbeats 4000000 in
set_option maxRecDepth 100000 in
theorem match_any (v : Value) (l : List Pt) (s : ByteArray) (w : World) (hp : PatAt w w.heap.size v l) (hln : l.length ≤ 100000) (hsn : s.size ≤ 100000) :
    Calls Try.prog 10 #[.agg #[v], .string s] w fun e w' => e = .returned (.bool (matchP l (L s))) ∧ Below w.heap.size w w' := by
  obtain ⟨n, hn⟩ : ∃ n, n = l.length := ⟨_, rfl⟩
  obtain ⟨R, hR⟩ : ∃ R, R = matchP l (L s) := ⟨_, rfl⟩
  obtain ⟨a, cap, rfl, hl⟩ := hp.shape
  rw [← hn] at hp hl hln ⊢
  rw [← hR]
  unfold maxLen at hl
  have hs : s.size = (L s).length := rfl
  have HG0 := Lib.hid (Greedy.start l (L s))
  rw [← hR] at HG0
  have HP := Lib.hid hp
  have HN := Lib.hid hn
  have HS := Lib.hid hs
  clear hp hn hR hs
  go_enter Try.func10, Try.ntmps10
  go_wp2_with fail
  refine wp_scope_again 0 (fun a' w' => ∃ (i k mark : Nat) (star : Int), i ≤ s.size ∧ k ≤ n ∧ mark ≤ i ∧ -1 ≤ star ∧ star ≤ n ∧ (∃ u : Nat → Value, a' = { tmps := #[u 0, .string s, .pointer (some ⟨w.heap.size, 0, none⟩), u 3, u 4, .int .i64 (i : Nat), .int .i64 (k : Nat), .int .i64 star, .int .i64 (mark : Nat), u 9, u 10, u 11, u 12, u 13, u 14, u 15, u 16, u 17, u 18, u 19, u 20, u 21, u 22, u 23, u 24, u 25, u 26, u 27, u 28, u 29, u 30, u 31, u 32, u 33, u 34, u 35, u 36, u 37, u 38, u 39, u 40, u 41, u 42, u 43, u 44, u 45, u 46, u 47, u 48, u 49, u 50, u 51, u 52, u 53, u 54, u 55, u 56, u 57, u 58, u 59, u 60, u 61, u 62, u 63, u 64, u 65, u 66, u 67, u 68, u 69, u 70, u 71, u 72, u 73, u 74, u 75, u 76, u 77, u 78, u 79, u 80], defers := [] }) ∧ Greedy l (L s) R i k star mark ∧ w'.cell? ⟨w.heap.size, 0, none⟩ = some (.slice a n cap) ∧ Below w.heap.size w w' ∧ w.heap.size < w'.heap.size)
    (fun a' _ => (s.size - (intOf (a'.tmps.getD 8 undef)).toNat) * (n + 1) + (n - (intOf (a'.tmps.getD 6 undef)).toNat)) rfl ?_ ?_
  · rintro a' wr ⟨i, k, mark, star, hi, hk, hm, hst1, hst2, ⟨u, rfl⟩, hg, hcell, hb, hbs⟩
    have HG := Lib.hid hg
    have HB := Lib.hid hb
    clear hg
    by_cases hlt : k < n
    · obtain ⟨p, hx⟩ : ∃ x, l[k]? = some x := ⟨_, List.getElem?_eq_getElem (by rw [← HN.out]; omega)⟩
      obtain ⟨b1, o1, sv, i1, hb1, c1, c2, c3, c4, hsl⟩ := pt_at (HP.out.below hb) hx (k : Int) rfl
      obtain ⟨sa, sn, sc, rfl⟩ : ∃ sa sn sc, sv = .slice sa sn sc := by
        obtain ⟨_, sa, sc, h, _⟩ := hsl
        exact ⟨sa, _, sc, h⟩
      have hb1' : b1 < wr.heap.size := by omega
      by_cases g1 : p.kind = 42
      · have t1 : (((p.kind.toNat : Nat) : Int) == 42) = true := eq_byte g1
        have HG2 := Lib.hid (HG.out.star hx g1)
        clear hx g1 hb hsl
        go_wp2
        go_step3
        refine ⟨rfl, ⟨i, k + 1, i, (k : Int), by omega, by omega, by omega, by omega, by omega, fr_intro rfl, HG2.out, hcell, HB.out, hbs⟩, ?_⟩
        show (s.size - i) * (n + 1) + (n - (k + 1)) < (s.size - mark) * (n + 1) + (n - k)
        exact pat_mu (by omega) (.inl ⟨hm, by omega⟩)
      · have t1 : (((p.kind.toNat : Nat) : Int) == 42) = false := ne_byte g1
        -- what comes behind the test that reads: back to the last star, or no
        by_cases hil : i < s.size
        · obtain ⟨c, hc⟩ : ∃ c, (L s)[i]? = some c := ⟨_, List.getElem?_eq_getElem (by rw [← HS.out]; omega)⟩
          have hidx := run_idx (P := Try.prog) Try.underlying9 s (k := .i64) (i : Int) i rfl hil
          have hce : (L s).getD i 0 = c := by simp [List.getD, hc]
          rw [hce] at hidx
          have CF : Hid (∀ d os, Calls Try.prog 20 #[.agg #[.int .u8 ((p.kind.toNat : Nat) : Int), .int .u8 ((p.b.toNat : Nat) : Int), .bool p.neg, .slice sa sn sc], .int .u8 ((c.toNat : Nat) : Int)] (Sort.grow (redrawn wr d) os) fun e w'' => e = .returned (.bool (fitsP p c)) ∧ ∃ q : Regrown, w'' = Sort.grow (redrawn wr q.d) q.os) := Lib.hid fun d os =>
            Calls.regrown_of (fits_any p _ c _ ((hsl.below ((below_regrown wr d os).mono hb.size)).mono (Nat.le_trans hb.size (below_regrown wr d os).size)))
          have hcg : ∀ d os, (Sort.grow (redrawn wr d) os).cell? ⟨w.heap.size, 0, none⟩ = some (.slice a n cap) := fun d os => cell_regrown hcell d os
          have hc1 : ∀ d os, (Sort.grow (redrawn wr d) os).cell? ⟨b1, o1, none⟩ = _ := fun d os => cell_regrown c1 d os
          have hc2 : ∀ d os, (Sort.grow (redrawn wr d) os).cell? ⟨b1, o1 + 1, none⟩ = _ := fun d os => cell_regrown c2 d os
          have hc3 : ∀ d os, (Sort.grow (redrawn wr d) os).cell? ⟨b1, o1 + 2, none⟩ = _ := fun d os => cell_regrown c3 d os
          have hc4 : ∀ d os, (Sort.grow (redrawn wr d) os).cell? ⟨b1, o1 + 3, none⟩ = _ := fun d os => cell_regrown c4 d os
          cases hf : fitsP p c with
          | true =>
            rw [hf] at CF
            have HG2 := Lib.hid (HG.out.fit hx g1 hc hf)
            clear hx g1 hsl hc hce hf
            go_wp2
            refine wp_region_quiet_below (by kernel_rfl) (by kernel_rfl) ?_
            repeat (go_big_quiet_step (with_reducible first | exact CF.out _ _))
            refine wpQuiet_nil ?_
            intro _ hw'
            obtain ⟨⟨dq, osq⟩, hw''⟩ := hw'
            subst hw''
            have hbq := hb.trans ((below_regrown wr dq osq).mono hb.size)
            have hcq := ((below_regrown wr dq osq).cell (p := ⟨w.heap.size, 0, none⟩) hbs).trans hcell
            have hzq : w.heap.size < (Sort.grow (redrawn wr dq) osq).heap.size := Nat.lt_of_lt_of_le hbs (below_regrown wr dq osq).size
            clear hcg hc1 hc2 hc3 hc4
            go_wp2
            go_step3
            refine ⟨rfl, ⟨i + 1, k + 1, mark, star, by omega, by omega, by omega, by omega, by omega, fr_intro rfl, HG2.out, hcq, hbq, hzq⟩, ?_⟩
            show (s.size - mark) * (n + 1) + (n - (k + 1)) < (s.size - mark) * (n + 1) + (n - k)
            exact pat_mu (by omega) (.inl ⟨Nat.le_refl _, by omega⟩)
          | false =>
            rw [hf] at CF
            have HNO := Lib.hid (no_way (l := l) (s := L s) (i := i) (k := k) (by rw [← HS.out]; omega) (by rw [← HN.out]; omega) (fun q hq => by rw [hx] at hq; cases hq; exact g1) (fun q d hq hd => by rw [hx] at hq; rw [hc] at hd; cases hq; cases hd; exact hf) (fun h => by rw [← HS.out] at h; omega))
            have he : (((i : Nat) : Int) == ((s.size : Nat) : Int)) = false := by rw [beq_eq_false_iff_ne]; omega
            clear hx g1 hsl hc hce hf
            by_cases hs0 : 0 ≤ star
            · by_cases hms : mark < s.size
              · obtain ⟨st, rfl⟩ : ∃ st : Nat, star = st := ⟨star.toNat, by omega⟩
                have HG2 := Lib.hid (HG.out.back HNO.out rfl (by rw [← HS.out]; exact hms))
                have hstn := HG2.out.hk
                rw [← HN.out] at hstn
                go_wp2
                refine wp_region_quiet_below (by kernel_rfl) (by kernel_rfl) ?_
                repeat (go_big_quiet_step (with_reducible first | exact CF.out _ _))
                refine wpQuiet_nil ?_
                intro _ hw'
                obtain ⟨⟨dq, osq⟩, hw''⟩ := hw'
                subst hw''
                have hbq := hb.trans ((below_regrown wr dq osq).mono hb.size)
                have hcq := ((below_regrown wr dq osq).cell (p := ⟨w.heap.size, 0, none⟩) hbs).trans hcell
                have hzq : w.heap.size < (Sort.grow (redrawn wr dq) osq).heap.size := Nat.lt_of_lt_of_le hbs (below_regrown wr dq osq).size
                try clear hcg hc1 hc2 hc3 hc4
                go_wp2
                go_step3
                refine ⟨rfl, ⟨mark + 1, st + 1, mark + 1, (st : Int), by omega, by omega, by omega, by omega, by omega, fr_intro rfl, HG2.out, hcq, hbq, hzq⟩, ?_⟩
                show (s.size - (mark + 1)) * (n + 1) + (n - (st + 1)) < (s.size - mark) * (n + 1) + (n - k)
                exact pat_mu (by omega) (.inr ⟨by omega, hms⟩)
              · exfalso
                omega
            · skip
              have hR : R = false := HG.out.no HNO.out (by first | (left; omega) | (right; rw [← HS.out]; omega))
              subst hR
              clear HG HNO HG0
              go_wp2
              refine wp_region_quiet_below (by kernel_rfl) (by kernel_rfl) ?_
              repeat (go_big_quiet_step (with_reducible first | exact CF.out _ _))
              refine wpQuiet_nil ?_
              intro _ hw'
              obtain ⟨⟨dq, osq⟩, hw''⟩ := hw'
              subst hw''
              have hbq := hb.trans ((below_regrown wr dq osq).mono hb.size)
              have hcq := ((below_regrown wr dq osq).cell (p := ⟨w.heap.size, 0, none⟩) hbs).trans hcell
              have hzq : w.heap.size < (Sort.grow (redrawn wr dq) osq).heap.size := Nat.lt_of_lt_of_le hbs (below_regrown wr dq osq).size
              try clear hcg hc1 hc2 hc3 hc4
              go_wp2
              simp only [Exit.jump]
              go_ret
              exact ⟨rfl, hbq⟩
        · have HNO := Lib.hid (no_way (l := l) (s := L s) (i := i) (k := k) (by rw [← HS.out]; omega) (by rw [← HN.out]; omega) (fun q hq => by rw [hx] at hq; cases hq; exact g1) (fun q d _ hd => by rw [List.getElem?_eq_none (by rw [← HS.out]; omega)] at hd; cases hd) (fun h => by rw [← HN.out] at h; omega))
          have hcg : ∀ d os, (Sort.grow (redrawn wr d) os).cell? ⟨w.heap.size, 0, none⟩ = some (.slice a n cap) := fun d os => cell_regrown hcell d os
          have he : (((k : Nat) : Int) == ((n : Nat) : Int)) = false := by rw [beq_eq_false_iff_ne]; omega
          clear hx g1 hsl
          by_cases hs0 : 0 ≤ star
          · by_cases hms : mark < s.size
            · obtain ⟨st, rfl⟩ : ∃ st : Nat, star = st := ⟨star.toNat, by omega⟩
              have HG2 := Lib.hid (HG.out.back HNO.out rfl (by rw [← HS.out]; exact hms))
              have hstn := HG2.out.hk
              rw [← HN.out] at hstn
              go_wp2
              refine wp_region_quiet_below (by kernel_rfl) (by kernel_rfl) ?_
              repeat (go_big_quiet_step (with_reducible first | exact CF.out _ _))
              refine wpQuiet_nil ?_
              intro _ hw'
              obtain ⟨⟨dq, osq⟩, hw''⟩ := hw'
              subst hw''
              have hbq := hb.trans ((below_regrown wr dq osq).mono hb.size)
              have hcq := ((below_regrown wr dq osq).cell (p := ⟨w.heap.size, 0, none⟩) hbs).trans hcell
              have hzq : w.heap.size < (Sort.grow (redrawn wr dq) osq).heap.size := Nat.lt_of_lt_of_le hbs (below_regrown wr dq osq).size
              try clear hcg hc1 hc2 hc3 hc4
              go_wp2
              go_step3
              refine ⟨rfl, ⟨mark + 1, st + 1, mark + 1, (st : Int), by omega, by omega, by omega, by omega, by omega, fr_intro rfl, HG2.out, hcq, hbq, hzq⟩, ?_⟩
              show (s.size - (mark + 1)) * (n + 1) + (n - (st + 1)) < (s.size - mark) * (n + 1) + (n - k)
              exact pat_mu (by omega) (.inr ⟨by omega, hms⟩)
            · skip
              have hR : R = false := HG.out.no HNO.out (by first | (left; omega) | (right; rw [← HS.out]; omega))
              subst hR
              clear HG HNO HG0
              go_wp2
              refine wp_region_quiet_below (by kernel_rfl) (by kernel_rfl) ?_
              repeat (go_big_quiet_step (with_reducible first | exact CF.out _ _))
              refine wpQuiet_nil ?_
              intro _ hw'
              obtain ⟨⟨dq, osq⟩, hw''⟩ := hw'
              subst hw''
              have hbq := hb.trans ((below_regrown wr dq osq).mono hb.size)
              have hcq := ((below_regrown wr dq osq).cell (p := ⟨w.heap.size, 0, none⟩) hbs).trans hcell
              have hzq : w.heap.size < (Sort.grow (redrawn wr dq) osq).heap.size := Nat.lt_of_lt_of_le hbs (below_regrown wr dq osq).size
              try clear hcg hc1 hc2 hc3 hc4
              go_wp2
              simp only [Exit.jump]
              go_ret
              exact ⟨rfl, hbq⟩
          · skip
            have hR : R = false := HG.out.no HNO.out (by first | (left; omega) | (right; rw [← HS.out]; omega))
            subst hR
            clear HG HNO HG0
            go_wp2
            refine wp_region_quiet_below (by kernel_rfl) (by kernel_rfl) ?_
            repeat (go_big_quiet_step (with_reducible first | exact CF.out _ _))
            refine wpQuiet_nil ?_
            intro _ hw'
            obtain ⟨⟨dq, osq⟩, hw''⟩ := hw'
            subst hw''
            have hbq := hb.trans ((below_regrown wr dq osq).mono hb.size)
            have hcq := ((below_regrown wr dq osq).cell (p := ⟨w.heap.size, 0, none⟩) hbs).trans hcell
            have hzq : w.heap.size < (Sort.grow (redrawn wr dq) osq).heap.size := Nat.lt_of_lt_of_le hbs (below_regrown wr dq osq).size
            try clear hcg hc1 hc2 hc3 hc4
            go_wp2
            simp only [Exit.jump]
            go_ret
            exact ⟨rfl, hbq⟩
    · have hkn : (((k : Nat) : Int) == ((n : Nat) : Int)) = true := by rw [beq_iff_eq]; omega
      have hcg : ∀ d os, (Sort.grow (redrawn wr d) os).cell? ⟨w.heap.size, 0, none⟩ = some (.slice a n cap) := fun d os => cell_regrown hcell d os
      by_cases hil : i < s.size
      · have he : (((i : Nat) : Int) == ((s.size : Nat) : Int)) = false := by rw [beq_eq_false_iff_ne]; omega
        have HNO := Lib.hid (no_way (l := l) (s := L s) (i := i) (k := k) (by rw [← HS.out]; omega) (by rw [← HN.out]; omega) (fun q hq => by rw [List.getElem?_eq_none (by rw [← HN.out]; omega)] at hq; cases hq) (fun q d hq _ => by rw [List.getElem?_eq_none (by rw [← HN.out]; omega)] at hq; cases hq) (fun h => by rw [← HS.out] at h; omega))
        by_cases hs0 : 0 ≤ star
        · by_cases hms : mark < s.size
          · obtain ⟨st, rfl⟩ : ∃ st : Nat, star = st := ⟨star.toNat, by omega⟩
            have HG2 := Lib.hid (HG.out.back HNO.out rfl (by rw [← HS.out]; exact hms))
            have hstn := HG2.out.hk
            rw [← HN.out] at hstn
            go_wp2
            refine wp_region_quiet_below (by kernel_rfl) (by kernel_rfl) ?_
            repeat (go_big_quiet_step (with_reducible first | exact CF.out _ _))
            refine wpQuiet_nil ?_
            intro _ hw'
            obtain ⟨⟨dq, osq⟩, hw''⟩ := hw'
            subst hw''
            have hbq := hb.trans ((below_regrown wr dq osq).mono hb.size)
            have hcq := ((below_regrown wr dq osq).cell (p := ⟨w.heap.size, 0, none⟩) hbs).trans hcell
            have hzq : w.heap.size < (Sort.grow (redrawn wr dq) osq).heap.size := Nat.lt_of_lt_of_le hbs (below_regrown wr dq osq).size
            try clear hcg hc1 hc2 hc3 hc4
            go_wp2
            go_step3
            refine ⟨rfl, ⟨mark + 1, st + 1, mark + 1, (st : Int), by omega, by omega, by omega, by omega, by omega, fr_intro rfl, HG2.out, hcq, hbq, hzq⟩, ?_⟩
            show (s.size - (mark + 1)) * (n + 1) + (n - (st + 1)) < (s.size - mark) * (n + 1) + (n - k)
            exact pat_mu (by omega) (.inr ⟨by omega, hms⟩)
          · exfalso
            omega
        · skip
          have hR : R = false := HG.out.no HNO.out (by first | (left; omega) | (right; rw [← HS.out]; omega))
          subst hR
          clear HG HNO HG0
          go_wp2
          refine wp_region_quiet_below (by kernel_rfl) (by kernel_rfl) ?_
          repeat (go_big_quiet_step (with_reducible first | exact CF.out _ _))
          refine wpQuiet_nil ?_
          intro _ hw'
          obtain ⟨⟨dq, osq⟩, hw''⟩ := hw'
          subst hw''
          have hbq := hb.trans ((below_regrown wr dq osq).mono hb.size)
          have hcq := ((below_regrown wr dq osq).cell (p := ⟨w.heap.size, 0, none⟩) hbs).trans hcell
          have hzq : w.heap.size < (Sort.grow (redrawn wr dq) osq).heap.size := Nat.lt_of_lt_of_le hbs (below_regrown wr dq osq).size
          try clear hcg hc1 hc2 hc3 hc4
          go_wp2
          simp only [Exit.jump]
          go_ret
          exact ⟨rfl, hbq⟩
      · have he : (((i : Nat) : Int) == ((s.size : Nat) : Int)) = true := by rw [beq_iff_eq]; omega
        have hR : R = true := HG.out.yes (by rw [← HS.out]; omega) (by rw [← HN.out]; omega)
        subst hR
        clear HG HG0
        go_wp2
        refine wp_region_quiet_below (by kernel_rfl) (by kernel_rfl) ?_
        repeat (go_big_quiet_step (with_reducible first | exact CF.out _ _))
        refine wpQuiet_nil ?_
        intro _ hw'
        obtain ⟨⟨dq, osq⟩, hw''⟩ := hw'
        subst hw''
        have hbq := hb.trans ((below_regrown wr dq osq).mono hb.size)
        have hcq := ((below_regrown wr dq osq).cell (p := ⟨w.heap.size, 0, none⟩) hbs).trans hcell
        have hzq : w.heap.size < (Sort.grow (redrawn wr dq) osq).heap.size := Nat.lt_of_lt_of_le hbs (below_regrown wr dq osq).size
        clear hcg
        go_wp2
        simp only [Exit.jump]
        go_ret
        exact ⟨rfl, hbq⟩
  · intro hR
    go_wp2
    go_step3
    go_step
    go_step
    exact hR.out _ _ ⟨0, 0, 0, -1, Nat.zero_le _, Nat.zero_le _, Nat.le_refl _, by omega, by omega, fr_intro rfl, HG0.out, by simp, Below.alloc (Below.refl _ _) (Nat.le_refl _) _, by simp⟩
end Go.Proofs.Ytiacoomeakodnaa
