/-
  Strings and their bytes: more small laws; strings.IndexByte by its contract.
-/
import Derived.Test.YtjeinpadcknfbaaGreatDoorWB5
import Derived.BigQuiet
import Derived.Lib.QuietBelow
import Derived.Test.YtjeinpadcknfbaaGreatDoorWB3
import Derived.Test.YtjeinpadcknfbaaGreatDoorWB1
import Derived.Test.YtjeinpadcknfbaaGreatDoorWB4
import Derived.Test.YtjeinpadcknfbaaGreatDoorWB2
import Derived.Laws.DeepStrings4
set_option linter.unusedVariables false
set_option linter.unusedSimpArgs false
/-
  Means, Dot, Match: the walks.
-/
namespace Go.Proofs.YtjeinpadcknfbaaGreatDoor
open Go.RowKit

theorem PatAt.shape {w : World} {B : Nat} {v : Value} {l : List Pt} (h : PatAt w B v l) : ∃ a cap, v = .slice a l.length cap ∧ l.length ≤ maxLen := by
  obtain ⟨ps, _, h2, _⟩ := h
  have h3 := h2.len
  obtain ⟨_, a, cap, h, _⟩ := h2
  exact ⟨a, cap, h, h3⟩

theorem pt_at {w : World} {B : Nat} {v : Value} {l : List Pt} (h : PatAt w B v l) {k : Nat} {p : Pt} (hp : l[k]? = some p) (i : Int) (hi : i = k) :
    ∃ b o sv, (∀ w' : World, (Instr.indexAt 95 v (.int .i64 i)).run Tryz.prog w' = .ok (.pointer (some ⟨b, o, none⟩)) w') ∧ b < B ∧ w.cell? ⟨b, o, none⟩ = some (.int .u8 ((p.kind.toNat : Nat) : Int)) ∧
      w.cell? ⟨b, o + 1, none⟩ = some (.int .u8 ((p.b.toNat : Nat) : Int)) ∧ w.cell? ⟨b, o + 2, none⟩ = some (.bool p.neg) ∧ w.cell? ⟨b, o + 3, none⟩ = some sv ∧ Sl w B 2 sv p.set.length (p.set.flatMap spanC) := by
  subst hi
  obtain ⟨ps, rfl, h2, h3⟩ := h
  rw [List.getElem?_map] at hp
  obtain ⟨x, hx, rfl⟩ := Option.map_eq_some_iff.1 hp
  rw [List.length_map] at h2
  have hk := (List.getElem?_eq_some_iff.1 hx).1
  obtain ⟨a, cap, b, off, rfl, _, _, q1, q2, q3⟩ := h2.open (P := Tryz.prog) 95 137 Tryz.underlying95 (by kernel_rfl)
  have g := flat_get ptC 4 ptC_len ps k x hx
  refine ⟨b, off + k * 4, x.2, fun w' => q1 k w' hk, by omega, ?_, ?_, ?_, ?_, h3 x (List.mem_of_getElem? hx)⟩
  · rw [show off + k * 4 = off + (k * 4 + 0) by omega, q3 _ (by omega), g 0 (by omega)]; rfl
  · rw [show off + k * 4 + 1 = off + (k * 4 + 1) by omega, q3 _ (by omega), g 1 (by omega)]; rfl
  · rw [show off + k * 4 + 2 = off + (k * 4 + 2) by omega, q3 _ (by omega), g 2 (by omega)]; rfl
  · rw [show off + k * 4 + 3 = off + (k * 4 + 3) by omega, q3 _ (by omega), g 3 (by omega)]; rfl

def meansP (l : List Pt) : Bool := l.any fun p => p.kind != 98

set_option maxHeartbeats 1000000 in
theorem means_any (v : Value) (l : List Pt) (w : World) (hp : PatAt w w.heap.size v l) : Calls Tryz.prog 42 #[.agg #[v]] w fun e w' => e = .returned (.bool (meansP l)) ∧ Below w.heap.size w w' := by
  obtain ⟨n, hn⟩ : ∃ n, n = l.length := ⟨_, rfl⟩
  obtain ⟨R, hR⟩ : ∃ R, R = meansP l := ⟨_, rfl⟩
  obtain ⟨a, cap, rfl, hl⟩ := hp.shape
  rw [← hn] at hp hl ⊢
  rw [← hR]
  unfold maxLen at hl
  have HP := Lib.hid hp
  have HN := Lib.hid hn
  have HR := Lib.hid hR
  clear hp hn hR
  go_enter Tryz.func42, Tryz.ntmps42
  go_wp2
  go_loopw [8] (fun i wr => ∃ k : Nat, k ≤ n ∧ i = .int .i64 k ∧ meansP (l.take k) = false ∧ Below w.heap.size w wr) (fun i _ => n - (intOf i).toNat)
  case atStart => exact ⟨0, Nat.zero_le _, rfl, by simp [meansP], Below.alloc (Below.refl _ _) (Nat.le_refl _) _⟩
  case round =>
    obtain ⟨k, hk, rfl, ha, hb⟩ := hrel
    have HB := Lib.hid hb
    have hbs := hb.size
    by_cases hlt : k < n
    · obtain ⟨p, hx⟩ : ∃ x, l[k]? = some x := ⟨_, List.getElem?_eq_getElem (by rw [← HN.out]; omega)⟩
      obtain ⟨b1, o1, sv, i1, hb1, c1, c2, c3, c4, hsl⟩ := pt_at (HP.out.below hb) hx (k : Int) rfl
      obtain ⟨_, sa, sc, rfl, _⟩ := hsl
      have hb1' : b1 < wr.heap.size := by omega
      have htk : meansP (l.take (k + 1)) = (p.kind != 98) := by
        obtain ⟨hk', e⟩ := List.getElem?_eq_some_iff.1 hx
        rw [List.take_succ_eq_append_getElem hk', e, meansP, List.any_append]
        rw [meansP] at ha
        rw [ha]; simp
      have hany : p.kind ≠ 98 → meansP l = true := fun h => List.any_eq_true.2 ⟨p, List.mem_of_getElem? hx, by simpa using h⟩
      by_cases g1 : p.kind = 98
      · have t1 : (((p.kind.toNat : Nat) : Int) != 98) = false := by rw [bne, show (((p.kind.toNat : Nat) : Int) == 98) = true from eq_byte g1]; rfl
        have hT : Hid (meansP (l.take (k + 1)) = false) := Lib.hid (by rw [htk, g1]; decide)
        clear hx htk hany ha hb g1
        go_wp2
        go_roundw
        case rel => exact ⟨k + 1, by omega, by go_num, hT.out, Below.alloc HB.out hbs _⟩
        case measure => simp [intOf]; omega
      · have t1 : (((p.kind.toNat : Nat) : Int) != 98) = true := by rw [bne, show (((p.kind.toNat : Nat) : Int) == 98) = false from ne_byte g1]; rfl
        have hR : R = true := by rw [HR.out, hany g1]
        subst hR
        clear hx htk hany ha hb g1
        go_wp2
        go_ret
        exact ⟨rfl, Below.alloc HB.out hbs _⟩
    · obtain rfl : k = n := by omega
      have hR : R = false := by
        rw [List.take_of_length_le (by rw [← HN.out]; omega)] at ha
        rw [HR.out, ha]
      subst hR
      clear ha hb
      go_wp2
      go_ret
      exact ⟨rfl, HB.out⟩

def dotP : List Pt → Bool
  | [] => false
  | p :: _ => p.kind == 98 && p.b == 46

end Go.Proofs.YtjeinpadcknfbaaGreatDoor
/-
  Match: the walk.
-/
namespace Go.Proofs.YtjeinpadcknfbaaGreatDoor
open Go.RowKit

theorem pat_mu {S n mark k mark' k' : Nat} (hk : k' ≤ n) (h : (mark ≤ mark' ∧ k < k') ∨ (mark < mark' ∧ mark < S)) : (S - mark') * (n + 1) + (n - k') < (S - mark) * (n + 1) + (n - k) := by
  rcases h with ⟨h1, h2⟩ | ⟨h1, h2⟩
  · have := Nat.mul_le_mul_right (n + 1) (show S - mark' ≤ S - mark by omega)
    omega
  · have h3 := Nat.mul_le_mul_right (n + 1) (show S - mark' + 1 ≤ S - mark by omega)
    rw [Nat.succ_mul] at h3
    omega

set_option maxHeartbeats 4000000 in
set_option maxRecDepth 100000 in
theorem match_any (v : Value) (l : List Pt) (s : ByteArray) (w : World) (hp : PatAt w w.heap.size v l) (hln : l.length ≤ 100000) (hsn : s.size ≤ 100000) :
    Calls Tryz.prog 83 #[.agg #[v], .string s] w fun e w' => e = .returned (.bool (matchP l (L s))) ∧ Below w.heap.size w w' := by
  obtain ⟨n, hn⟩ : ∃ n, n = l.length := ⟨_, rfl⟩
  obtain ⟨R, hR⟩ : ∃ R, R = matchP l (L s) := ⟨_, rfl⟩
  obtain ⟨a, cap, rfl, hl⟩ := hp.shape
  rw [← hn] at hp hl hln ⊢
  rw [← hR]
  unfold maxLen at hl
  have hs : s.size = (L s).length := rfl
  have HG0 := Lib.hid (Greedy.start l (L s))
  rw [← hR] at HG0
  have HP := Lib.hid hp
  have HN := Lib.hid hn
  have HS := Lib.hid hs
  clear hp hn hR hs
  go_enter Tryz.func83, Tryz.ntmps83
  go_wp2_with fail
  refine wp_scope_again 0 (fun a' w' => ∃ (i k mark : Nat) (star : Int), i ≤ s.size ∧ k ≤ n ∧ mark ≤ i ∧ -1 ≤ star ∧ star ≤ n ∧ (∃ u : Nat → Value, a' = { tmps := #[u 0, .string s, .pointer (some ⟨w.heap.size, 0, none⟩), u 3, u 4, .int .i64 (i : Nat), .int .i64 (k : Nat), .int .i64 star, .int .i64 (mark : Nat), u 9, u 10, u 11, u 12, u 13, u 14, u 15, u 16, u 17, u 18, u 19, u 20, u 21, u 22, u 23, u 24, u 25, u 26, u 27, u 28, u 29, u 30, u 31, u 32, u 33, u 34, u 35, u 36, u 37, u 38, u 39, u 40, u 41, u 42, u 43, u 44, u 45, u 46, u 47, u 48, u 49, u 50, u 51, u 52, u 53, u 54, u 55, u 56, u 57, u 58, u 59, u 60, u 61, u 62, u 63, u 64, u 65, u 66, u 67, u 68, u 69, u 70, u 71, u 72, u 73, u 74, u 75, u 76, u 77, u 78, u 79, u 80], defers := [] }) ∧ Greedy l (L s) R i k star mark ∧ w'.cell? ⟨w.heap.size, 0, none⟩ = some (.slice a n cap) ∧ Below w.heap.size w w' ∧ w.heap.size < w'.heap.size)
    (fun a' _ => (s.size - (intOf (a'.tmps.getD 8 undef)).toNat) * (n + 1) + (n - (intOf (a'.tmps.getD 6 undef)).toNat)) rfl ?_ ?_
  · rintro a' wr ⟨i, k, mark, star, hi, hk, hm, hst1, hst2, ⟨u, rfl⟩, hg, hcell, hb, hbs⟩
    have HG := Lib.hid hg
    have HB := Lib.hid hb
    clear hg
    by_cases hlt : k < n
    · obtain ⟨p, hx⟩ : ∃ x, l[k]? = some x := ⟨_, List.getElem?_eq_getElem (by rw [← HN.out]; omega)⟩
      obtain ⟨b1, o1, sv, i1, hb1, c1, c2, c3, c4, hsl⟩ := pt_at (HP.out.below hb) hx (k : Int) rfl
      obtain ⟨sa, sn, sc, rfl⟩ : ∃ sa sn sc, sv = .slice sa sn sc := by
        obtain ⟨_, sa, sc, h, _⟩ := hsl
        exact ⟨sa, _, sc, h⟩
      have hb1' : b1 < wr.heap.size := by omega
      by_cases g1 : p.kind = 42
      · have t1 : (((p.kind.toNat : Nat) : Int) == 42) = true := eq_byte g1
        have HG2 := Lib.hid (HG.out.star hx g1)
        clear hx g1 hb hsl
        go_wp2
        go_step3
        refine ⟨rfl, ⟨i, k + 1, i, (k : Int), by omega, by omega, by omega, by omega, by omega, fr_intro rfl, HG2.out, hcell, HB.out, hbs⟩, ?_⟩
        show (s.size - i) * (n + 1) + (n - (k + 1)) < (s.size - mark) * (n + 1) + (n - k)
        exact pat_mu (by omega) (.inl ⟨hm, by omega⟩)
      · have t1 : (((p.kind.toNat : Nat) : Int) == 42) = false := ne_byte g1
        -- what comes behind the test that reads: back to the last star, or no
        by_cases hil : i < s.size
        · obtain ⟨c, hc⟩ : ∃ c, (L s)[i]? = some c := ⟨_, List.getElem?_eq_getElem (by rw [← HS.out]; omega)⟩
          have hidx := run_idx (P := Tryz.prog) Tryz.underlying9 s (k := .i64) (i : Int) i rfl hil
          have hce : (L s).getD i 0 = c := by simp [List.getD, hc]
          rw [hce] at hidx
          have CF : Hid (∀ d os, Calls Tryz.prog 99 #[.agg #[.int .u8 ((p.kind.toNat : Nat) : Int), .int .u8 ((p.b.toNat : Nat) : Int), .bool p.neg, .slice sa sn sc], .int .u8 ((c.toNat : Nat) : Int)] (Sort.grow (redrawn wr d) os) fun e w'' => e = .returned (.bool (fitsP p c)) ∧ ∃ q : Regrown, w'' = Sort.grow (redrawn wr q.d) q.os) := Lib.hid fun d os =>
            Calls.regrown_of (fits_any p _ c _ ((hsl.below ((below_regrown wr d os).mono hb.size)).mono (Nat.le_trans hb.size (below_regrown wr d os).size)))
          have hcg : ∀ d os, (Sort.grow (redrawn wr d) os).cell? ⟨w.heap.size, 0, none⟩ = some (.slice a n cap) := fun d os => cell_regrown hcell d os
          have hc1 : ∀ d os, (Sort.grow (redrawn wr d) os).cell? ⟨b1, o1, none⟩ = _ := fun d os => cell_regrown c1 d os
          have hc2 : ∀ d os, (Sort.grow (redrawn wr d) os).cell? ⟨b1, o1 + 1, none⟩ = _ := fun d os => cell_regrown c2 d os
          have hc3 : ∀ d os, (Sort.grow (redrawn wr d) os).cell? ⟨b1, o1 + 2, none⟩ = _ := fun d os => cell_regrown c3 d os
          have hc4 : ∀ d os, (Sort.grow (redrawn wr d) os).cell? ⟨b1, o1 + 3, none⟩ = _ := fun d os => cell_regrown c4 d os
          cases hf : fitsP p c with
          | true =>
            rw [hf] at CF
            have HG2 := Lib.hid (HG.out.fit hx g1 hc hf)
            clear hx g1 hsl hc hce hf
            go_wp2
            refine wp_region_quiet_below (by kernel_rfl) (by kernel_rfl) ?_
            repeat (go_big_quiet_step (with_reducible first | exact CF.out _ _))
            refine wpQuiet_nil ?_
            intro _ hw'
            obtain ⟨⟨dq, osq⟩, hw''⟩ := hw'
            subst hw''
            have hbq := hb.trans ((below_regrown wr dq osq).mono hb.size)
            have hcq := ((below_regrown wr dq osq).cell (p := ⟨w.heap.size, 0, none⟩) hbs).trans hcell
            have hzq : w.heap.size < (Sort.grow (redrawn wr dq) osq).heap.size := Nat.lt_of_lt_of_le hbs (below_regrown wr dq osq).size
            clear hcg hc1 hc2 hc3 hc4
            go_wp2
            go_step3
            refine ⟨rfl, ⟨i + 1, k + 1, mark, star, by omega, by omega, by omega, by omega, by omega, fr_intro rfl, HG2.out, hcq, hbq, hzq⟩, ?_⟩
            show (s.size - mark) * (n + 1) + (n - (k + 1)) < (s.size - mark) * (n + 1) + (n - k)
            exact pat_mu (by omega) (.inl ⟨Nat.le_refl _, by omega⟩)
          | false =>
            rw [hf] at CF
            have HNO := Lib.hid (no_way (l := l) (s := L s) (i := i) (k := k) (by rw [← HS.out]; omega) (by rw [← HN.out]; omega) (fun q hq => by rw [hx] at hq; cases hq; exact g1) (fun q d hq hd => by rw [hx] at hq; rw [hc] at hd; cases hq; cases hd; exact hf) (fun h => by rw [← HS.out] at h; omega))
            have he : (((i : Nat) : Int) == ((s.size : Nat) : Int)) = false := by rw [beq_eq_false_iff_ne]; omega
            clear hx g1 hsl hc hce hf
            by_cases hs0 : 0 ≤ star
            · by_cases hms : mark < s.size
              · obtain ⟨st, rfl⟩ : ∃ st : Nat, star = st := ⟨star.toNat, by omega⟩
                have HG2 := Lib.hid (HG.out.back HNO.out rfl (by rw [← HS.out]; exact hms))
                have hstn := HG2.out.hk
                rw [← HN.out] at hstn
                go_wp2
                refine wp_region_quiet_below (by kernel_rfl) (by kernel_rfl) ?_
                repeat (go_big_quiet_step (with_reducible first | exact CF.out _ _))
                refine wpQuiet_nil ?_
                intro _ hw'
                obtain ⟨⟨dq, osq⟩, hw''⟩ := hw'
                subst hw''
                have hbq := hb.trans ((below_regrown wr dq osq).mono hb.size)
                have hcq := ((below_regrown wr dq osq).cell (p := ⟨w.heap.size, 0, none⟩) hbs).trans hcell
                have hzq : w.heap.size < (Sort.grow (redrawn wr dq) osq).heap.size := Nat.lt_of_lt_of_le hbs (below_regrown wr dq osq).size
                try clear hcg hc1 hc2 hc3 hc4
                go_wp2
                go_step3
                refine ⟨rfl, ⟨mark + 1, st + 1, mark + 1, (st : Int), by omega, by omega, by omega, by omega, by omega, fr_intro rfl, HG2.out, hcq, hbq, hzq⟩, ?_⟩
                show (s.size - (mark + 1)) * (n + 1) + (n - (st + 1)) < (s.size - mark) * (n + 1) + (n - k)
                exact pat_mu (by omega) (.inr ⟨by omega, hms⟩)
              · exfalso
                omega
            · skip
              have hR : R = false := HG.out.no HNO.out (by first | (left; omega) | (right; rw [← HS.out]; omega))
              subst hR
              clear HG HNO HG0
              go_wp2
              refine wp_region_quiet_below (by kernel_rfl) (by kernel_rfl) ?_
              repeat (go_big_quiet_step (with_reducible first | exact CF.out _ _))
              refine wpQuiet_nil ?_
              intro _ hw'
              obtain ⟨⟨dq, osq⟩, hw''⟩ := hw'
              subst hw''
              have hbq := hb.trans ((below_regrown wr dq osq).mono hb.size)
              have hcq := ((below_regrown wr dq osq).cell (p := ⟨w.heap.size, 0, none⟩) hbs).trans hcell
              have hzq : w.heap.size < (Sort.grow (redrawn wr dq) osq).heap.size := Nat.lt_of_lt_of_le hbs (below_regrown wr dq osq).size
              try clear hcg hc1 hc2 hc3 hc4
              go_wp2
              simp only [Exit.jump]
              go_ret
              exact ⟨rfl, hbq⟩
        · have HNO := Lib.hid (no_way (l := l) (s := L s) (i := i) (k := k) (by rw [← HS.out]; omega) (by rw [← HN.out]; omega) (fun q hq => by rw [hx] at hq; cases hq; exact g1) (fun q d _ hd => by rw [List.getElem?_eq_none (by rw [← HS.out]; omega)] at hd; cases hd) (fun h => by rw [← HN.out] at h; omega))
          have hcg : ∀ d os, (Sort.grow (redrawn wr d) os).cell? ⟨w.heap.size, 0, none⟩ = some (.slice a n cap) := fun d os => cell_regrown hcell d os
          have he : (((k : Nat) : Int) == ((n : Nat) : Int)) = false := by rw [beq_eq_false_iff_ne]; omega
          clear hx g1 hsl
          by_cases hs0 : 0 ≤ star
          · by_cases hms : mark < s.size
            · obtain ⟨st, rfl⟩ : ∃ st : Nat, star = st := ⟨star.toNat, by omega⟩
              have HG2 := Lib.hid (HG.out.back HNO.out rfl (by rw [← HS.out]; exact hms))
              have hstn := HG2.out.hk
              rw [← HN.out] at hstn
              go_wp2
              refine wp_region_quiet_below (by kernel_rfl) (by kernel_rfl) ?_
              repeat (go_big_quiet_step (with_reducible first | exact CF.out _ _))
              refine wpQuiet_nil ?_
              intro _ hw'
              obtain ⟨⟨dq, osq⟩, hw''⟩ := hw'
              subst hw''
              have hbq := hb.trans ((below_regrown wr dq osq).mono hb.size)
              have hcq := ((below_regrown wr dq osq).cell (p := ⟨w.heap.size, 0, none⟩) hbs).trans hcell
              have hzq : w.heap.size < (Sort.grow (redrawn wr dq) osq).heap.size := Nat.lt_of_lt_of_le hbs (below_regrown wr dq osq).size
              try clear hcg hc1 hc2 hc3 hc4
              go_wp2
              go_step3
              refine ⟨rfl, ⟨mark + 1, st + 1, mark + 1, (st : Int), by omega, by omega, by omega, by omega, by omega, fr_intro rfl, HG2.out, hcq, hbq, hzq⟩, ?_⟩
              show (s.size - (mark + 1)) * (n + 1) + (n - (st + 1)) < (s.size - mark) * (n + 1) + (n - k)
              exact pat_mu (by omega) (.inr ⟨by omega, hms⟩)
            · skip
              have hR : R = false := HG.out.no HNO.out (by first | (left; omega) | (right; rw [← HS.out]; omega))
              subst hR
              clear HG HNO HG0
              go_wp2
              refine wp_region_quiet_below (by kernel_rfl) (by kernel_rfl) ?_
              repeat (go_big_quiet_step (with_reducible first | exact CF.out _ _))
              refine wpQuiet_nil ?_
              intro _ hw'
              obtain ⟨⟨dq, osq⟩, hw''⟩ := hw'
              subst hw''
              have hbq := hb.trans ((below_regrown wr dq osq).mono hb.size)
              have hcq := ((below_regrown wr dq osq).cell (p := ⟨w.heap.size, 0, none⟩) hbs).trans hcell
              have hzq : w.heap.size < (Sort.grow (redrawn wr dq) osq).heap.size := Nat.lt_of_lt_of_le hbs (below_regrown wr dq osq).size
              try clear hcg hc1 hc2 hc3 hc4
              go_wp2
              simp only [Exit.jump]
              go_ret
              exact ⟨rfl, hbq⟩
          · skip
            have hR : R = false := HG.out.no HNO.out (by first | (left; omega) | (right; rw [← HS.out]; omega))
            subst hR
            clear HG HNO HG0
            go_wp2
            refine wp_region_quiet_below (by kernel_rfl) (by kernel_rfl) ?_
            repeat (go_big_quiet_step (with_reducible first | exact CF.out _ _))
            refine wpQuiet_nil ?_
            intro _ hw'
            obtain ⟨⟨dq, osq⟩, hw''⟩ := hw'
            subst hw''
            have hbq := hb.trans ((below_regrown wr dq osq).mono hb.size)
            have hcq := ((below_regrown wr dq osq).cell (p := ⟨w.heap.size, 0, none⟩) hbs).trans hcell
            have hzq : w.heap.size < (Sort.grow (redrawn wr dq) osq).heap.size := Nat.lt_of_lt_of_le hbs (below_regrown wr dq osq).size
            try clear hcg hc1 hc2 hc3 hc4
            go_wp2
            simp only [Exit.jump]
            go_ret
            exact ⟨rfl, hbq⟩
    · have hkn : (((k : Nat) : Int) == ((n : Nat) : Int)) = true := by rw [beq_iff_eq]; omega
      have hcg : ∀ d os, (Sort.grow (redrawn wr d) os).cell? ⟨w.heap.size, 0, none⟩ = some (.slice a n cap) := fun d os => cell_regrown hcell d os
      by_cases hil : i < s.size
      · have he : (((i : Nat) : Int) == ((s.size : Nat) : Int)) = false := by rw [beq_eq_false_iff_ne]; omega
        have HNO := Lib.hid (no_way (l := l) (s := L s) (i := i) (k := k) (by rw [← HS.out]; omega) (by rw [← HN.out]; omega) (fun q hq => by rw [List.getElem?_eq_none (by rw [← HN.out]; omega)] at hq; cases hq) (fun q d hq _ => by rw [List.getElem?_eq_none (by rw [← HN.out]; omega)] at hq; cases hq) (fun h => by rw [← HS.out] at h; omega))
        by_cases hs0 : 0 ≤ star
        · by_cases hms : mark < s.size
          · obtain ⟨st, rfl⟩ : ∃ st : Nat, star = st := ⟨star.toNat, by omega⟩
            have HG2 := Lib.hid (HG.out.back HNO.out rfl (by rw [← HS.out]; exact hms))
            have hstn := HG2.out.hk
            rw [← HN.out] at hstn
            go_wp2
            refine wp_region_quiet_below (by kernel_rfl) (by kernel_rfl) ?_
            repeat (go_big_quiet_step (with_reducible first | exact CF.out _ _))
            refine wpQuiet_nil ?_
            intro _ hw'
            obtain ⟨⟨dq, osq⟩, hw''⟩ := hw'
            subst hw''
            have hbq := hb.trans ((below_regrown wr dq osq).mono hb.size)
            have hcq := ((below_regrown wr dq osq).cell (p := ⟨w.heap.size, 0, none⟩) hbs).trans hcell
            have hzq : w.heap.size < (Sort.grow (redrawn wr dq) osq).heap.size := Nat.lt_of_lt_of_le hbs (below_regrown wr dq osq).size
            try clear hcg hc1 hc2 hc3 hc4
            go_wp2
            go_step3
            refine ⟨rfl, ⟨mark + 1, st + 1, mark + 1, (st : Int), by omega, by omega, by omega, by omega, by omega, fr_intro rfl, HG2.out, hcq, hbq, hzq⟩, ?_⟩
            show (s.size - (mark + 1)) * (n + 1) + (n - (st + 1)) < (s.size - mark) * (n + 1) + (n - k)
            exact pat_mu (by omega) (.inr ⟨by omega, hms⟩)
          · exfalso
            omega
        · skip
          have hR : R = false := HG.out.no HNO.out (by first | (left; omega) | (right; rw [← HS.out]; omega))
          subst hR
          clear HG HNO HG0
          go_wp2
          refine wp_region_quiet_below (by kernel_rfl) (by kernel_rfl) ?_
          repeat (go_big_quiet_step (with_reducible first | exact CF.out _ _))
          refine wpQuiet_nil ?_
          intro _ hw'
          obtain ⟨⟨dq, osq⟩, hw''⟩ := hw'
          subst hw''
          have hbq := hb.trans ((below_regrown wr dq osq).mono hb.size)
          have hcq := ((below_regrown wr dq osq).cell (p := ⟨w.heap.size, 0, none⟩) hbs).trans hcell
          have hzq : w.heap.size < (Sort.grow (redrawn wr dq) osq).heap.size := Nat.lt_of_lt_of_le hbs (below_regrown wr dq osq).size
          try clear hcg hc1 hc2 hc3 hc4
          go_wp2
          simp only [Exit.jump]
          go_ret
          exact ⟨rfl, hbq⟩
      · have he : (((i : Nat) : Int) == ((s.size : Nat) : Int)) = true := by rw [beq_iff_eq]; omega
        have hR : R = true := HG.out.yes (by rw [← HS.out]; omega) (by rw [← HN.out]; omega)
        subst hR
        clear HG HG0
        go_wp2
        refine wp_region_quiet_below (by kernel_rfl) (by kernel_rfl) ?_
        repeat (go_big_quiet_step (with_reducible first | exact CF.out _ _))
        refine wpQuiet_nil ?_
        intro _ hw'
        obtain ⟨⟨dq, osq⟩, hw''⟩ := hw'
        subst hw''
        have hbq := hb.trans ((below_regrown wr dq osq).mono hb.size)
        have hcq := ((below_regrown wr dq osq).cell (p := ⟨w.heap.size, 0, none⟩) hbs).trans hcell
        have hzq : w.heap.size < (Sort.grow (redrawn wr dq) osq).heap.size := Nat.lt_of_lt_of_le hbs (below_regrown wr dq osq).size
        clear hcg
        go_wp2
        simp only [Exit.jump]
        go_ret
        exact ⟨rfl, hbq⟩
  · intro hR
    go_wp2
    go_step3
    go_step
    go_step
    exact hR.out _ _ ⟨0, 0, 0, -1, Nat.zero_le _, Nat.zero_le _, Nat.le_refl _, by omega, by omega, fr_intro rfl, HG0.out, by simp, Below.alloc (Below.refl _ _) (Nat.le_refl _) _, by simp⟩
end Go.Proofs.YtjeinpadcknfbaaGreatDoor
/-
  The document's example of patterns: the walk of anchor; quoted texts: the plain law and the walk of PatQuotes.
-/
namespace Go.Proofs.YtjeinpadcknfbaaGreatDoor
open Go.RowKit

def anchorText : List UInt8 := [91, 33, 97, 45, 99, 93, 42, 46, 91, 91, 58, 100, 105, 103, 105, 116, 58, 93, 93]
def anchorPat : List Pt := [⟨91, 0, true, [(97, 99)]⟩, ⟨42, 0, false, []⟩, ⟨98, 46, false, []⟩, ⟨91, 0, false, [(48, 57)]⟩]
theorem anchor_comp : comp (signsP ⟨⟨#[91, 33, 97, 45, 99, 93, 42, 46, 91, 91, 58, 100, 105, 103, 105, 116, 58, 93, 93]⟩, false⟩) = anchorPat := by kernel_rfl
theorem anchor_yes : matchP anchorPat (L ⟨#[120, 46, 49]⟩) = true := by kernel_rfl
theorem anchor_no : matchP anchorPat (L ⟨#[98, 46, 49]⟩) = false := by kernel_rfl

/-! ### quoted texts -/
def bytesP (l : List UInt8) : List Pt := l.map fun b => ⟨98, b, false, []⟩
theorem comp_quoted (l : List UInt8) (t : List Sg) : comp ((l.map fun b => ⟨b, true⟩) ++ t) = bytesP l ++ comp t := by
  induction l with
  | nil => rfl
  | cons b l ih =>
    rw [List.map_cons, List.cons_append, comp_byte rfl (fun h => by cases h), ih]; rfl
theorem matchP_bytes (m : List Pt) : ∀ (l s : List UInt8), matchP (bytesP l ++ m) s = (l.isPrefixOf s && matchP m (s.drop l.length))
  | [], s => by simp [bytesP]
  | b :: l, [] => by
    show matchP (⟨98, b, false, []⟩ :: (bytesP l ++ m)) [] = _
    rw [matchP_end (p := ⟨98, b, false, []⟩) (fun h => by cases h)]; rfl
  | b :: l, c :: s => by
    show matchP (⟨98, b, false, []⟩ :: (bytesP l ++ m)) (c :: s) = _
    rw [matchP_cons (p := ⟨98, b, false, []⟩) (fun h => by cases h), matchP_bytes m l s, ← Bool.and_assoc]; rfl
theorem match_quoted (l s : List UInt8) : matchP (bytesP l) s = (s == l) := by
  have h := matchP_bytes [] l s
  rw [List.append_nil] at h
  rw [h, Bool.eq_iff_iff, Bool.and_eq_true, matchP_nil, List.isPrefixOf_iff_prefix, beq_iff_eq]
  constructor
  · rintro ⟨⟨t, rfl⟩, h2⟩
    rw [List.drop_left] at h2
    simp at h2; simp [h2]
  · rintro rfl
    exact ⟨List.prefix_refl _, by simp⟩
theorem matchP_any (s : List UInt8) : matchP [⟨42, 0, false, []⟩] s = true := by
  rw [matchP_star rfl, anyT_iff]
  exact ⟨s.length, Nat.le_refl _, by rw [List.drop_length]; rfl⟩
theorem means_bytes (l : List UInt8) : meansP (bytesP l) = false := by
  simp [meansP, bytesP]
end Go.Proofs.YtjeinpadcknfbaaGreatDoor
/-
  The walk of PatQuotes.
-/
namespace Go.Proofs.YtjeinpadcknfbaaGreatDoor
open Go.RowKit

def starS : ByteArray := ⟨#[42]⟩
theorem quotes_comp1 (s : ByteArray) : comp (signsOf [⟨s, true⟩]) = bytesP (L s) := by
  have h := comp_quoted (L s) []
  rw [comp_nil, List.append_nil, List.append_nil] at h
  simpa [signsOf, signsP] using h
theorem comp_lone : comp [⟨42, false⟩] = [⟨42, 0, false, []⟩] := by kernel_rfl
theorem quotes_comp2 (s : ByteArray) : comp (signsOf [⟨s, true⟩, ⟨⟨#[42]⟩, false⟩]) = bytesP (L s) ++ [⟨42, 0, false, []⟩] := by
  have h := comp_quoted (L s) [⟨42, false⟩]
  rw [comp_lone] at h
  rw [← h]
  simp [signsOf, signsP]

/-- Match of a pattern that has been made, in every later world. -/
abbrev MatchAt (W1 : World) (v : Value) (s : ByteArray) (r : Bool) : Prop := ∀ W, Below W1.heap.size W1 W → Calls Tryz.prog 83 #[.agg #[v], .string s] W fun e w' => e = .returned (.bool r) ∧ Below W.heap.size W w'
theorem match_at {W1 : World} {base : Nat} {v : Value} {l : List Pt} (hp : PatOwn W1 base v l) (s : ByteArray) (r : Bool) (hr : matchP l (L s) = r) (hl : l.length ≤ 100000) (hs : s.size ≤ 100000) : Hid (MatchAt W1 v s r) := Lib.hid fun W hW => by
  rw [← hr]
  exact match_any _ _ s W ((hp.at_.below hW).mono hW.size) hl hs

def CompAt (w : World) (l : List Pt) (e : Ending) (w' : World) : Prop := Below w.heap.size w w' ∧ ∃ a n c, e = .returned (.agg #[.slice a n c]) ∧ PatOwn w' w.heap.size (.slice a n c) l
theorem CompAt.of {l : List Pt} {w : World} {e : Ending} {w' : World} (h : CompPost l w e w') : CompAt w l e w' := by
  obtain ⟨h1, v, h2, h3⟩ := h
  obtain ⟨a, n, c, rfl⟩ := h3.shape
  exact ⟨h1, a, n, c, h2, h3⟩

end Go.Proofs.YtjeinpadcknfbaaGreatDoor
/-
  What is cut away: the plain law; Cut and the document's Cut: the walks.
-/
namespace Go.Proofs.YtjeinpadcknfbaaGreatDoor
open Go.RowKit

/-- The least, or greatest, number up to len of which m holds. -/
def IsBest (m : Nat → Bool) (len : Nat) (long : Bool) : Option Nat → Prop
  | none => ∀ n, n ≤ len → m n = false
  | some b => b ≤ len ∧ m b = true ∧ ∀ n, n ≤ len → m n = true → if long then n ≤ b else b ≤ n
theorem best_ex (m : Nat → Bool) (long : Bool) : ∀ len, ∃ o, IsBest m len long o
  | 0 => by
    cases h : m 0 with
    | false => exact ⟨none, fun n hn => by obtain rfl : n = 0 := by omega
                                           exact h⟩
    | true => exact ⟨some 0, Nat.le_refl _, h, fun n hn _ => by cases long <;> simp <;> omega⟩
  | len + 1 => by
    obtain ⟨o, ho⟩ := best_ex m long len
    cases h : m (len + 1) with
    | false =>
      refine ⟨o, ?_⟩
      cases o with
      | none =>
        intro n hn
        by_cases e : n = len + 1
        · rw [e]; exact h
        · exact ho n (by omega)
      | some b =>
        refine ⟨by have := ho.1; omega, ho.2.1, fun n hn hm => ?_⟩
        by_cases e : n = len + 1
        · rw [e, h] at hm; cases hm
        · exact ho.2.2 n (by omega) hm
    | true =>
      cases o with
      | none =>
        refine ⟨some (len + 1), Nat.le_refl _, h, fun n hn hm => ?_⟩
        by_cases e : n = len + 1
        · rw [e]; cases long <;> simp
        · rw [ho n (by omega)] at hm; cases hm
      | some b =>
        cases long with
        | true => exact ⟨some (len + 1), Nat.le_refl _, h, fun n hn _ => by simpa using hn⟩
        | false =>
          refine ⟨some b, by have := ho.1; omega, ho.2.1, fun n hn hm => ?_⟩
          by_cases e : n = len + 1
          · have := ho.1
            simp; omega
          · exact ho.2.2 n (by omega) hm
/-- The part of n bytes that is held against the pattern. -/
def cutPart (s : List UInt8) (en : Bool) (n : Nat) : List UInt8 := if en then s.drop (s.length - n) else s.take n
/-- What is left. -/
def cutLeft (s : ByteArray) (en : Bool) : Option Nat → ByteArray
  | none => s
  | some n => if en then s.extract 0 (s.size - n) else s.extract n s.size

theorem best_uniq_some {m : Nat → Bool} {len : Nat} {long : Bool} {o : Option Nat} (ho : IsBest m len long o) {b : Nat} (hb : b ≤ len) (hm : m b = true) (h : ∀ n, n ≤ len → m n = true → if long then n ≤ b else b ≤ n) : o = some b := by
  cases o with
  | none => rw [ho b hb] at hm; cases hm
  | some c =>
    have h1 := h c ho.1 ho.2.1
    have h2 := ho.2.2 b hb hm
    cases long <;> simp at h1 h2 <;> rw [show c = b by omega]
theorem best_uniq_none {m : Nat → Bool} {len : Nat} {long : Bool} {o : Option Nat} (ho : IsBest m len long o) (h : ∀ n, n ≤ len → m n = false) : o = none := by
  cases o with
  | none => rfl
  | some c => have := h c ho.1; rw [ho.2.1] at this; cases this

set_option maxHeartbeats 4000000 in
set_option maxRecDepth 100000 in
theorem cut_any (v : Value) (l : List Pt) (s : ByteArray) (en lg : Bool) (w : World) (hp : PatAt w w.heap.size v l) (hln : l.length ≤ 100000) (hs : s.size ≤ 1000) (o : Option Nat) (ho : IsBest (fun n => matchP l (cutPart (L s) en n)) s.size lg o) :
    Calls Tryz.prog 58 #[.agg #[v], .string s, .bool en, .bool lg] w fun e w' => e = .returned (.string (cutLeft s en o)) ∧ Below w.heap.size w w' := by
  obtain ⟨m, hm⟩ : ∃ m : Nat → Bool, m = fun n => matchP l (cutPart (L s) en n) := ⟨_, rfl⟩
  rw [← hm] at ho
  have CM : Hid (∀ W, Below w.heap.size w W → ∀ (s' : ByteArray) (r : Bool), s'.size ≤ 100000 → matchP l (L s') = r → Calls Tryz.prog 83 #[.agg #[v], .string s'] W fun e w' => e = .returned (.bool r) ∧ Below W.heap.size W w') := Lib.hid fun W hW s' r h1 h2 => by
    rw [← h2]; exact match_any v l s' W ((hp.below hW).mono hW.size) hln h1
  obtain ⟨a, cap, rfl, hl⟩ := hp.shape
  have HO := Lib.hid ho
  have HM := Lib.hid hm
  clear hp ho hm hln hl
  obtain ⟨f, hf⟩ : ∃ f : Nat → Nat, f = fun i => if lg then s.size - i else i := ⟨_, rfl⟩
  have hfi : ∀ i, i ≤ s.size → f i ≤ s.size := fun i hi => by rw [hf]; cases lg <;> simp <;> omega
  have hend : ∀ (b : Nat), b ≤ s.size → m b = true → ∀ k, k ≤ s.size → f k = b → (∀ j, j < k → m (f j) = false) → o = some b := fun b hb hmb k hk hfk hno => by
    refine best_uniq_some HO.out hb hmb fun n hn hmn => ?_
    rw [hf] at hfk hno
    cases lg with
    | true =>
      simp at hfk hno ⊢
      rcases Nat.lt_or_ge b n with h | h
      · have h2 := hno (s.size - n) (by omega)
        rw [show s.size - (s.size - n) = n by omega, hmn] at h2; cases h2
      · exact h
    | false =>
      simp at hfk hno ⊢
      rcases Nat.lt_or_ge n b with h | h
      · have h2 := hno n (by omega)
        rw [hmn] at h2; cases h2
      · exact h
  have hnone : (∀ j, j < s.size + 1 → m (f j) = false) → o = none := fun hno => by
    refine best_uniq_none HO.out fun n hn => ?_
    have h1 := hno (f n) (by have := hfi n hn; omega)
    rw [hf] at h1
    cases lg with
    | true => simp at h1; rw [show s.size - (s.size - n) = n by omega] at h1; exact h1
    | false => simpa using h1
  have HEND := Lib.hid hend
  have HNONE := Lib.hid hnone
  have HFI := Lib.hid hfi
  have HF := Lib.hid hf
  clear hf hfi hend hnone HO
  cases en with
  | false =>
    cases lg with
    | false =>
      go_enter Tryz.func58, Tryz.ntmps58
      go_wp2_with fail
      go_loopw [13] (fun i wr => ∃ k : Nat, k ≤ s.size + 1 ∧ i = .int .i64 k ∧ (∀ j, j < k → m (f j) = false) ∧ wr.cell? ⟨w.heap.size, 0, none⟩ = some (.slice a l.length cap) ∧ w.heap.size < wr.heap.size ∧ Below w.heap.size w wr) (fun i _ => s.size + 1 - (intOf i).toNat)
      case atStart => exact ⟨0, Nat.zero_le _, rfl, fun j h => by omega, (Blk.new w 97 #[.slice a l.length cap]).cell 0, by simp, Below.alloc (Below.refl _ _) (Nat.le_refl _) _⟩
      case round =>
        obtain ⟨i, hi, rfl, hno, hcwr, hzwr, hb⟩ := hrel
        have Hwr := Lib.hid hb
        have HNO := Lib.hid hno
        clear hno hb
        by_cases hlt : i < s.size + 1
        · obtain ⟨nn, hnn⟩ : ∃ nn, nn = f i := ⟨_, rfl⟩
          have hns : nn ≤ s.size := by rw [hnn]; exact HFI.out i (by omega)
          obtain ⟨r, hr⟩ : ∃ r, m nn = r := ⟨_, rfl⟩
          have hlt2 : (i : Int) < (s.size : Int) + 1 := by omega
          obtain ⟨mm, hmm⟩ : ∃ mm, mm = s.size - nn := ⟨_, rfl⟩
          have hw : ((s.size : Nat) : Int) - ((nn : Nat) : Int) = ((mm : Nat) : Int) := by omega
          have hms : mm ≤ s.size := by omega
          obtain rfl : nn = i := by rw [hnn, HF.out]; simp
          have HNN := Lib.hid hnn.symm
          have HMR := Lib.hid hr
          have HMM := Lib.hid hmm
          clear hnn hr hmm
          have hsl : ∀ w' : World, (Instr.slice 9 (.string s) none (some (.int .i64 ((nn : Nat) : Int))) none).run Tryz.prog w' = .ok (.string (s.extract 0 nn)) w' := fun w' => run_sl_to Tryz.underlying9 s _ nn rfl hns w'
          have HPART : Hid (matchP l (L (s.extract 0 nn)) = r) := Lib.hid (by
            rw [← HMR.out, HM.out, S_extract_to, L_S]; rfl)
          cases r with
          | true =>
            have ho : o = some nn := HEND.out nn hns HMR.out nn (by omega) HNN.out HNO.out
            subst ho
            clear HEND HNONE
            go_wp2
            refine wp_region_quiet_below (by kernel_rfl) (by kernel_rfl) ?_
            repeat (go_big_quiet_step (with_reducible first | exact CF.out _ _))
            refine wpQuiet_nil ?_
            intro w6 hw'
            have hb6 : Below wr.heap.size wr w6 := by
              obtain ⟨⟨dq, osq⟩, hw''⟩ := hw'
              rw [hw'']; exact below_regrown _ _ _
            have Hw6 := Lib.hid (Hwr.out.trans (hb6.mono Hwr.out.size))
            have hcw6 := (hb6.cell (p := ⟨w.heap.size, 0, none⟩) hzwr).trans hcwr
            have hzw6 : w.heap.size < w6.heap.size := Nat.lt_of_lt_of_le hzwr hb6.size
            clear hw' hb6
            go_wp2
            have hcg : ∀ d os, (Sort.grow (redrawn w6 d) os).cell? ⟨w.heap.size, 0, none⟩ = some (.slice a l.length cap) := fun d os => cell_regrown hcw6 d os
            have CF : Hid (∀ d os, Calls Tryz.prog 83 #[.agg #[.slice a l.length cap], .string (s.extract 0 nn)] (Sort.grow (redrawn w6 d) os) fun e w'' => e = .returned (.bool true) ∧ ∃ q : Regrown, w'' = Sort.grow (redrawn w6 q.d) q.os) := Lib.hid fun d os =>
              Calls.regrown_of (CM.out _ (Hw6.out.trans ((below_regrown w6 d os).mono Hw6.out.size)) _ _ (by have := extract_len s 0 nn; omega) HPART.out)
            refine wp_region_quiet_below (by kernel_rfl) (by kernel_rfl) ?_
            repeat (go_big_quiet_step (with_reducible first | exact CF.out _ _))
            refine wpQuiet_nil ?_
            intro w7 hw'
            have hb6 : Below w6.heap.size w6 w7 := by
              obtain ⟨⟨dq, osq⟩, hw''⟩ := hw'
              rw [hw'']; exact below_regrown _ _ _
            have Hw7 := Lib.hid (Hw6.out.trans (hb6.mono Hw6.out.size))
            have hcw7 := (hb6.cell (p := ⟨w.heap.size, 0, none⟩) hzw6).trans hcw6
            have hzw7 : w.heap.size < w7.heap.size := Nat.lt_of_lt_of_le hzw6 hb6.size
            clear hw' hb6
            clear hcg hsl
            go_wp2
            go_ret
            exact ⟨rfl, Hw7.out⟩
          | false =>
            go_wp2
            refine wp_region_quiet_below (by kernel_rfl) (by kernel_rfl) ?_
            repeat (go_big_quiet_step (with_reducible first | exact CF.out _ _))
            refine wpQuiet_nil ?_
            intro w6 hw'
            have hb6 : Below wr.heap.size wr w6 := by
              obtain ⟨⟨dq, osq⟩, hw''⟩ := hw'
              rw [hw'']; exact below_regrown _ _ _
            have Hw6 := Lib.hid (Hwr.out.trans (hb6.mono Hwr.out.size))
            have hcw6 := (hb6.cell (p := ⟨w.heap.size, 0, none⟩) hzwr).trans hcwr
            have hzw6 : w.heap.size < w6.heap.size := Nat.lt_of_lt_of_le hzwr hb6.size
            clear hw' hb6
            go_wp2
            have hcg : ∀ d os, (Sort.grow (redrawn w6 d) os).cell? ⟨w.heap.size, 0, none⟩ = some (.slice a l.length cap) := fun d os => cell_regrown hcw6 d os
            have CF : Hid (∀ d os, Calls Tryz.prog 83 #[.agg #[.slice a l.length cap], .string (s.extract 0 nn)] (Sort.grow (redrawn w6 d) os) fun e w'' => e = .returned (.bool false) ∧ ∃ q : Regrown, w'' = Sort.grow (redrawn w6 q.d) q.os) := Lib.hid fun d os =>
              Calls.regrown_of (CM.out _ (Hw6.out.trans ((below_regrown w6 d os).mono Hw6.out.size)) _ _ (by have := extract_len s 0 nn; omega) HPART.out)
            refine wp_region_quiet_below (by kernel_rfl) (by kernel_rfl) ?_
            repeat (go_big_quiet_step (with_reducible first | exact CF.out _ _))
            refine wpQuiet_nil ?_
            intro w7 hw'
            have hb6 : Below w6.heap.size w6 w7 := by
              obtain ⟨⟨dq, osq⟩, hw''⟩ := hw'
              rw [hw'']; exact below_regrown _ _ _
            have Hw7 := Lib.hid (Hw6.out.trans (hb6.mono Hw6.out.size))
            have hcw7 := (hb6.cell (p := ⟨w.heap.size, 0, none⟩) hzw6).trans hcw6
            have hzw7 : w.heap.size < w7.heap.size := Nat.lt_of_lt_of_le hzw6 hb6.size
            clear hw' hb6
            clear hcg hsl
            go_wp2
            go_roundw
            case rel => exact ⟨nn + 1, by omega, by go_num, fun j h => by
              by_cases e : j = nn
              · subst e; rw [HNN.out, HMR.out]
              · exact HNO.out j (by omega), hcw7, hzw7, Hw7.out⟩
            case measure => simp [intOf]; omega
        · have hR : o = none := HNONE.out fun j hj => HNO.out j (by omega)
          subst hR
          clear HEND HNONE
          go_wp2
          go_ret
          exact ⟨rfl, Hwr.out⟩
    | true =>
      go_enter Tryz.func58, Tryz.ntmps58
      go_wp2_with fail
      go_loopw [13] (fun i wr => ∃ k : Nat, k ≤ s.size + 1 ∧ i = .int .i64 k ∧ (∀ j, j < k → m (f j) = false) ∧ wr.cell? ⟨w.heap.size, 0, none⟩ = some (.slice a l.length cap) ∧ w.heap.size < wr.heap.size ∧ Below w.heap.size w wr) (fun i _ => s.size + 1 - (intOf i).toNat)
      case atStart => exact ⟨0, Nat.zero_le _, rfl, fun j h => by omega, (Blk.new w 97 #[.slice a l.length cap]).cell 0, by simp, Below.alloc (Below.refl _ _) (Nat.le_refl _) _⟩
      case round =>
        obtain ⟨i, hi, rfl, hno, hcwr, hzwr, hb⟩ := hrel
        have Hwr := Lib.hid hb
        have HNO := Lib.hid hno
        clear hno hb
        by_cases hlt : i < s.size + 1
        · obtain ⟨nn, hnn⟩ : ∃ nn, nn = f i := ⟨_, rfl⟩
          have hns : nn ≤ s.size := by rw [hnn]; exact HFI.out i (by omega)
          obtain ⟨r, hr⟩ : ∃ r, m nn = r := ⟨_, rfl⟩
          have hlt2 : (i : Int) < (s.size : Int) + 1 := by omega
          obtain ⟨mm, hmm⟩ : ∃ mm, mm = s.size - nn := ⟨_, rfl⟩
          have hw : ((s.size : Nat) : Int) - ((nn : Nat) : Int) = ((mm : Nat) : Int) := by omega
          have hms : mm ≤ s.size := by omega
          have hv : ((s.size : Nat) : Int) - ((i : Nat) : Int) = ((nn : Nat) : Int) := by rw [hnn, HF.out]; simp; omega
          have HNN := Lib.hid hnn.symm
          have HMR := Lib.hid hr
          have HMM := Lib.hid hmm
          clear hnn hr hmm
          have hsl : ∀ w' : World, (Instr.slice 9 (.string s) none (some (.int .i64 ((nn : Nat) : Int))) none).run Tryz.prog w' = .ok (.string (s.extract 0 nn)) w' := fun w' => run_sl_to Tryz.underlying9 s _ nn rfl hns w'
          have HPART : Hid (matchP l (L (s.extract 0 nn)) = r) := Lib.hid (by
            rw [← HMR.out, HM.out, S_extract_to, L_S]; rfl)
          cases r with
          | true =>
            have ho : o = some nn := HEND.out nn hns HMR.out i (by omega) HNN.out HNO.out
            subst ho
            clear HEND HNONE
            go_wp2
            refine wp_region_quiet_below (by kernel_rfl) (by kernel_rfl) ?_
            repeat (go_big_quiet_step (with_reducible first | exact CF.out _ _))
            refine wpQuiet_nil ?_
            intro w6 hw'
            have hb6 : Below wr.heap.size wr w6 := by
              obtain ⟨⟨dq, osq⟩, hw''⟩ := hw'
              rw [hw'']; exact below_regrown _ _ _
            have Hw6 := Lib.hid (Hwr.out.trans (hb6.mono Hwr.out.size))
            have hcw6 := (hb6.cell (p := ⟨w.heap.size, 0, none⟩) hzwr).trans hcwr
            have hzw6 : w.heap.size < w6.heap.size := Nat.lt_of_lt_of_le hzwr hb6.size
            clear hw' hb6
            go_wp2
            have hcg : ∀ d os, (Sort.grow (redrawn w6 d) os).cell? ⟨w.heap.size, 0, none⟩ = some (.slice a l.length cap) := fun d os => cell_regrown hcw6 d os
            have CF : Hid (∀ d os, Calls Tryz.prog 83 #[.agg #[.slice a l.length cap], .string (s.extract 0 nn)] (Sort.grow (redrawn w6 d) os) fun e w'' => e = .returned (.bool true) ∧ ∃ q : Regrown, w'' = Sort.grow (redrawn w6 q.d) q.os) := Lib.hid fun d os =>
              Calls.regrown_of (CM.out _ (Hw6.out.trans ((below_regrown w6 d os).mono Hw6.out.size)) _ _ (by have := extract_len s 0 nn; omega) HPART.out)
            refine wp_region_quiet_below (by kernel_rfl) (by kernel_rfl) ?_
            repeat (go_big_quiet_step (with_reducible first | exact CF.out _ _))
            refine wpQuiet_nil ?_
            intro w7 hw'
            have hb6 : Below w6.heap.size w6 w7 := by
              obtain ⟨⟨dq, osq⟩, hw''⟩ := hw'
              rw [hw'']; exact below_regrown _ _ _
            have Hw7 := Lib.hid (Hw6.out.trans (hb6.mono Hw6.out.size))
            have hcw7 := (hb6.cell (p := ⟨w.heap.size, 0, none⟩) hzw6).trans hcw6
            have hzw7 : w.heap.size < w7.heap.size := Nat.lt_of_lt_of_le hzw6 hb6.size
            clear hw' hb6
            clear hcg hsl
            go_wp2
            go_ret
            exact ⟨rfl, Hw7.out⟩
          | false =>
            go_wp2
            refine wp_region_quiet_below (by kernel_rfl) (by kernel_rfl) ?_
            repeat (go_big_quiet_step (with_reducible first | exact CF.out _ _))
            refine wpQuiet_nil ?_
            intro w6 hw'
            have hb6 : Below wr.heap.size wr w6 := by
              obtain ⟨⟨dq, osq⟩, hw''⟩ := hw'
              rw [hw'']; exact below_regrown _ _ _
            have Hw6 := Lib.hid (Hwr.out.trans (hb6.mono Hwr.out.size))
            have hcw6 := (hb6.cell (p := ⟨w.heap.size, 0, none⟩) hzwr).trans hcwr
            have hzw6 : w.heap.size < w6.heap.size := Nat.lt_of_lt_of_le hzwr hb6.size
            clear hw' hb6
            go_wp2
            have hcg : ∀ d os, (Sort.grow (redrawn w6 d) os).cell? ⟨w.heap.size, 0, none⟩ = some (.slice a l.length cap) := fun d os => cell_regrown hcw6 d os
            have CF : Hid (∀ d os, Calls Tryz.prog 83 #[.agg #[.slice a l.length cap], .string (s.extract 0 nn)] (Sort.grow (redrawn w6 d) os) fun e w'' => e = .returned (.bool false) ∧ ∃ q : Regrown, w'' = Sort.grow (redrawn w6 q.d) q.os) := Lib.hid fun d os =>
              Calls.regrown_of (CM.out _ (Hw6.out.trans ((below_regrown w6 d os).mono Hw6.out.size)) _ _ (by have := extract_len s 0 nn; omega) HPART.out)
            refine wp_region_quiet_below (by kernel_rfl) (by kernel_rfl) ?_
            repeat (go_big_quiet_step (with_reducible first | exact CF.out _ _))
            refine wpQuiet_nil ?_
            intro w7 hw'
            have hb6 : Below w6.heap.size w6 w7 := by
              obtain ⟨⟨dq, osq⟩, hw''⟩ := hw'
              rw [hw'']; exact below_regrown _ _ _
            have Hw7 := Lib.hid (Hw6.out.trans (hb6.mono Hw6.out.size))
            have hcw7 := (hb6.cell (p := ⟨w.heap.size, 0, none⟩) hzw6).trans hcw6
            have hzw7 : w.heap.size < w7.heap.size := Nat.lt_of_lt_of_le hzw6 hb6.size
            clear hw' hb6
            clear hcg hsl
            go_wp2
            go_roundw
            case rel => exact ⟨i + 1, by omega, by go_num, fun j h => by
              by_cases e : j = i
              · subst e; rw [HNN.out, HMR.out]
              · exact HNO.out j (by omega), hcw7, hzw7, Hw7.out⟩
            case measure => simp [intOf]; omega
        · have hR : o = none := HNONE.out fun j hj => HNO.out j (by omega)
          subst hR
          clear HEND HNONE
          go_wp2
          go_ret
          exact ⟨rfl, Hwr.out⟩
  | true =>
    cases lg with
    | false =>
      go_enter Tryz.func58, Tryz.ntmps58
      go_wp2_with fail
      go_loopw [13] (fun i wr => ∃ k : Nat, k ≤ s.size + 1 ∧ i = .int .i64 k ∧ (∀ j, j < k → m (f j) = false) ∧ wr.cell? ⟨w.heap.size, 0, none⟩ = some (.slice a l.length cap) ∧ w.heap.size < wr.heap.size ∧ Below w.heap.size w wr) (fun i _ => s.size + 1 - (intOf i).toNat)
      case atStart => exact ⟨0, Nat.zero_le _, rfl, fun j h => by omega, (Blk.new w 97 #[.slice a l.length cap]).cell 0, by simp, Below.alloc (Below.refl _ _) (Nat.le_refl _) _⟩
      case round =>
        obtain ⟨i, hi, rfl, hno, hcwr, hzwr, hb⟩ := hrel
        have Hwr := Lib.hid hb
        have HNO := Lib.hid hno
        clear hno hb
        by_cases hlt : i < s.size + 1
        · obtain ⟨nn, hnn⟩ : ∃ nn, nn = f i := ⟨_, rfl⟩
          have hns : nn ≤ s.size := by rw [hnn]; exact HFI.out i (by omega)
          obtain ⟨r, hr⟩ : ∃ r, m nn = r := ⟨_, rfl⟩
          have hlt2 : (i : Int) < (s.size : Int) + 1 := by omega
          obtain ⟨mm, hmm⟩ : ∃ mm, mm = s.size - nn := ⟨_, rfl⟩
          have hw : ((s.size : Nat) : Int) - ((nn : Nat) : Int) = ((mm : Nat) : Int) := by omega
          have hms : mm ≤ s.size := by omega
          obtain rfl : nn = i := by rw [hnn, HF.out]; simp
          have HNN := Lib.hid hnn.symm
          have HMR := Lib.hid hr
          have HMM := Lib.hid hmm
          clear hnn hr hmm
          have hwr : IntKind.i64.wrap (((s.size : Nat) : Int) - ((nn : Nat) : Int)) = ((mm : Nat) : Int) := by rw [hw]; exact wrap_in _ (by omega)
          have hsl : ∀ w' : World, (Instr.slice 9 (.string s) (some (.int .i64 ((mm : Nat) : Int))) none none).run Tryz.prog w' = .ok (.string (s.extract mm s.size)) w' := fun w' => run_sl_from Tryz.underlying9 s _ mm rfl hms w'
          have HPART : Hid (matchP l (L (s.extract mm s.size)) = r) := Lib.hid (by
            rw [← HMR.out, HM.out, S_extract_from, L_S, HMM.out]; rfl)
          have hcg : ∀ d os, (Sort.grow (redrawn wr d) os).cell? ⟨w.heap.size, 0, none⟩ = some (.slice a l.length cap) := fun d os => cell_regrown hcwr d os
          have CF : Hid (∀ d os, Calls Tryz.prog 83 #[.agg #[.slice a l.length cap], .string (s.extract mm s.size)] (Sort.grow (redrawn wr d) os) fun e w'' => e = .returned (.bool r) ∧ ∃ q : Regrown, w'' = Sort.grow (redrawn wr q.d) q.os) := Lib.hid fun d os =>
            Calls.regrown_of (CM.out _ (Hwr.out.trans ((below_regrown wr d os).mono Hwr.out.size)) _ _ (by have := extract_len s mm s.size; omega) HPART.out)
          cases r with
          | true =>
            have ho : o = some nn := HEND.out nn hns HMR.out nn (by omega) HNN.out HNO.out
            subst ho
            clear HEND HNONE
            go_wp2
            refine wp_region_quiet_below (by kernel_rfl) (by kernel_rfl) ?_
            repeat (go_big_quiet_step (with_reducible first | exact CF.out _ _))
            refine wpQuiet_nil ?_
            intro w6 hw'
            have hb6 : Below wr.heap.size wr w6 := by
              obtain ⟨⟨dq, osq⟩, hw''⟩ := hw'
              rw [hw'']; exact below_regrown _ _ _
            have Hw6 := Lib.hid (Hwr.out.trans (hb6.mono Hwr.out.size))
            have hcw6 := (hb6.cell (p := ⟨w.heap.size, 0, none⟩) hzwr).trans hcwr
            have hzw6 : w.heap.size < w6.heap.size := Nat.lt_of_lt_of_le hzwr hb6.size
            clear hw' hb6
            clear hcg hwr hsl
            go_wp2
            go_ret
            refine ⟨ret_string ?_, Hw6.out⟩
            rw [HMM.out]; rfl
          | false =>
            go_wp2
            refine wp_region_quiet_below (by kernel_rfl) (by kernel_rfl) ?_
            repeat (go_big_quiet_step (with_reducible first | exact CF.out _ _))
            refine wpQuiet_nil ?_
            intro w6 hw'
            have hb6 : Below wr.heap.size wr w6 := by
              obtain ⟨⟨dq, osq⟩, hw''⟩ := hw'
              rw [hw'']; exact below_regrown _ _ _
            have Hw6 := Lib.hid (Hwr.out.trans (hb6.mono Hwr.out.size))
            have hcw6 := (hb6.cell (p := ⟨w.heap.size, 0, none⟩) hzwr).trans hcwr
            have hzw6 : w.heap.size < w6.heap.size := Nat.lt_of_lt_of_le hzwr hb6.size
            clear hw' hb6
            clear hcg hwr hsl
            go_wp2
            refine wp_region_quiet_below (by kernel_rfl) (by kernel_rfl) ?_
            repeat (go_big_quiet_step (with_reducible first | exact CF.out _ _))
            refine wpQuiet_nil ?_
            intro w7 hw'
            have hb6 : Below w6.heap.size w6 w7 := by
              obtain ⟨⟨dq, osq⟩, hw''⟩ := hw'
              rw [hw'']; exact below_regrown _ _ _
            have Hw7 := Lib.hid (Hw6.out.trans (hb6.mono Hw6.out.size))
            have hcw7 := (hb6.cell (p := ⟨w.heap.size, 0, none⟩) hzw6).trans hcw6
            have hzw7 : w.heap.size < w7.heap.size := Nat.lt_of_lt_of_le hzw6 hb6.size
            clear hw' hb6
            go_wp2
            go_roundw
            case rel => exact ⟨nn + 1, by omega, by go_num, fun j h => by
              by_cases e : j = nn
              · subst e; rw [HNN.out, HMR.out]
              · exact HNO.out j (by omega), hcw7, hzw7, Hw7.out⟩
            case measure => simp [intOf]; omega
        · have hR : o = none := HNONE.out fun j hj => HNO.out j (by omega)
          subst hR
          clear HEND HNONE
          go_wp2
          go_ret
          exact ⟨rfl, Hwr.out⟩
    | true =>
      go_enter Tryz.func58, Tryz.ntmps58
      go_wp2_with fail
      go_loopw [13] (fun i wr => ∃ k : Nat, k ≤ s.size + 1 ∧ i = .int .i64 k ∧ (∀ j, j < k → m (f j) = false) ∧ wr.cell? ⟨w.heap.size, 0, none⟩ = some (.slice a l.length cap) ∧ w.heap.size < wr.heap.size ∧ Below w.heap.size w wr) (fun i _ => s.size + 1 - (intOf i).toNat)
      case atStart => exact ⟨0, Nat.zero_le _, rfl, fun j h => by omega, (Blk.new w 97 #[.slice a l.length cap]).cell 0, by simp, Below.alloc (Below.refl _ _) (Nat.le_refl _) _⟩
      case round =>
        obtain ⟨i, hi, rfl, hno, hcwr, hzwr, hb⟩ := hrel
        have Hwr := Lib.hid hb
        have HNO := Lib.hid hno
        clear hno hb
        by_cases hlt : i < s.size + 1
        · obtain ⟨nn, hnn⟩ : ∃ nn, nn = f i := ⟨_, rfl⟩
          have hns : nn ≤ s.size := by rw [hnn]; exact HFI.out i (by omega)
          obtain ⟨r, hr⟩ : ∃ r, m nn = r := ⟨_, rfl⟩
          have hlt2 : (i : Int) < (s.size : Int) + 1 := by omega
          obtain ⟨mm, hmm⟩ : ∃ mm, mm = s.size - nn := ⟨_, rfl⟩
          have hw : ((s.size : Nat) : Int) - ((nn : Nat) : Int) = ((mm : Nat) : Int) := by omega
          have hms : mm ≤ s.size := by omega
          have hv : ((s.size : Nat) : Int) - ((i : Nat) : Int) = ((nn : Nat) : Int) := by rw [hnn, HF.out]; simp; omega
          have HNN := Lib.hid hnn.symm
          have HMR := Lib.hid hr
          have HMM := Lib.hid hmm
          clear hnn hr hmm
          have hwr : IntKind.i64.wrap (((s.size : Nat) : Int) - ((nn : Nat) : Int)) = ((mm : Nat) : Int) := by rw [hw]; exact wrap_in _ (by omega)
          have hsl : ∀ w' : World, (Instr.slice 9 (.string s) (some (.int .i64 ((mm : Nat) : Int))) none none).run Tryz.prog w' = .ok (.string (s.extract mm s.size)) w' := fun w' => run_sl_from Tryz.underlying9 s _ mm rfl hms w'
          have HPART : Hid (matchP l (L (s.extract mm s.size)) = r) := Lib.hid (by
            rw [← HMR.out, HM.out, S_extract_from, L_S, HMM.out]; rfl)
          have hcg : ∀ d os, (Sort.grow (redrawn wr d) os).cell? ⟨w.heap.size, 0, none⟩ = some (.slice a l.length cap) := fun d os => cell_regrown hcwr d os
          have CF : Hid (∀ d os, Calls Tryz.prog 83 #[.agg #[.slice a l.length cap], .string (s.extract mm s.size)] (Sort.grow (redrawn wr d) os) fun e w'' => e = .returned (.bool r) ∧ ∃ q : Regrown, w'' = Sort.grow (redrawn wr q.d) q.os) := Lib.hid fun d os =>
            Calls.regrown_of (CM.out _ (Hwr.out.trans ((below_regrown wr d os).mono Hwr.out.size)) _ _ (by have := extract_len s mm s.size; omega) HPART.out)
          cases r with
          | true =>
            have ho : o = some nn := HEND.out nn hns HMR.out i (by omega) HNN.out HNO.out
            subst ho
            clear HEND HNONE
            go_wp2
            refine wp_region_quiet_below (by kernel_rfl) (by kernel_rfl) ?_
            repeat (go_big_quiet_step (with_reducible first | exact CF.out _ _))
            refine wpQuiet_nil ?_
            intro w6 hw'
            have hb6 : Below wr.heap.size wr w6 := by
              obtain ⟨⟨dq, osq⟩, hw''⟩ := hw'
              rw [hw'']; exact below_regrown _ _ _
            have Hw6 := Lib.hid (Hwr.out.trans (hb6.mono Hwr.out.size))
            have hcw6 := (hb6.cell (p := ⟨w.heap.size, 0, none⟩) hzwr).trans hcwr
            have hzw6 : w.heap.size < w6.heap.size := Nat.lt_of_lt_of_le hzwr hb6.size
            clear hw' hb6
            clear hcg hwr hsl
            go_wp2
            go_ret
            refine ⟨ret_string ?_, Hw6.out⟩
            rw [HMM.out]; rfl
          | false =>
            go_wp2
            refine wp_region_quiet_below (by kernel_rfl) (by kernel_rfl) ?_
            repeat (go_big_quiet_step (with_reducible first | exact CF.out _ _))
            refine wpQuiet_nil ?_
            intro w6 hw'
            have hb6 : Below wr.heap.size wr w6 := by
              obtain ⟨⟨dq, osq⟩, hw''⟩ := hw'
              rw [hw'']; exact below_regrown _ _ _
            have Hw6 := Lib.hid (Hwr.out.trans (hb6.mono Hwr.out.size))
            have hcw6 := (hb6.cell (p := ⟨w.heap.size, 0, none⟩) hzwr).trans hcwr
            have hzw6 : w.heap.size < w6.heap.size := Nat.lt_of_lt_of_le hzwr hb6.size
            clear hw' hb6
            clear hcg hwr hsl
            go_wp2
            refine wp_region_quiet_below (by kernel_rfl) (by kernel_rfl) ?_
            repeat (go_big_quiet_step (with_reducible first | exact CF.out _ _))
            refine wpQuiet_nil ?_
            intro w7 hw'
            have hb6 : Below w6.heap.size w6 w7 := by
              obtain ⟨⟨dq, osq⟩, hw''⟩ := hw'
              rw [hw'']; exact below_regrown _ _ _
            have Hw7 := Lib.hid (Hw6.out.trans (hb6.mono Hw6.out.size))
            have hcw7 := (hb6.cell (p := ⟨w.heap.size, 0, none⟩) hzw6).trans hcw6
            have hzw7 : w.heap.size < w7.heap.size := Nat.lt_of_lt_of_le hzw6 hb6.size
            clear hw' hb6
            go_wp2
            go_roundw
            case rel => exact ⟨i + 1, by omega, by go_num, fun j h => by
              by_cases e : j = i
              · subst e; rw [HNN.out, HMR.out]
              · exact HNO.out j (by omega), hcw7, hzw7, Hw7.out⟩
            case measure => simp [intOf]; omega
        · have hR : o = none := HNONE.out fun j hj => HNO.out j (by omega)
          subst hR
          clear HEND HNONE
          go_wp2
          go_ret
          exact ⟨rfl, Hwr.out⟩
end Go.Proofs.YtjeinpadcknfbaaGreatDoor
/-
  Fields, plain: pieces put behind each other; the machine that splits; the document's machine, byte by byte.
-/
namespace Go.Proofs.YtjeinpadcknfbaaGreatDoor
open Go.RowKit

/-- A piece that came in. -/
structure In where
  t : ByteArray
  q : Bool
  s : Bool
  b : Bool
def putN (now : List Pc) (t : ByteArray) (q : Bool) : List Pc := match now.getLast? with
  | some p => if p.q = q then now.dropLast ++ [⟨p.t ++ t, q⟩] else now ++ [⟨t, q⟩]
  | none => [⟨t, q⟩]
theorem putN_nil (t : ByteArray) (q : Bool) : putN [] t q = [⟨t, q⟩] := rfl
theorem putN_same (l : List Pc) (p : Pc) (t : ByteArray) (q : Bool) (h : p.q = q) : putN (l ++ [p]) t q = l ++ [⟨p.t ++ t, q⟩] := by
  simp [putN, h]
theorem putN_other (l : List Pc) (p : Pc) (t : ByteArray) (q : Bool) (h : p.q ≠ q) : putN (l ++ [p]) t q = l ++ [p] ++ [⟨t, q⟩] := by
  simp [putN, h]
theorem snoc_or {α : Type} (l : List α) : l = [] ∨ ∃ m x, l = m ++ [x] := by
  rcases List.eq_nil_or_concat l with h | ⟨m, x, h⟩
  · exact .inl h
  · exact .inr ⟨m, x, by rw [h, List.concat_eq_append]⟩
theorem putN_putN (l : List Pc) (a b : ByteArray) (q : Bool) : putN (putN l a q) b q = putN l (a ++ b) q := by
  rcases snoc_or l with rfl | ⟨m, p, rfl⟩
  · rw [putN_nil, putN_nil]
    exact putN_same [] _ _ _ rfl
  · by_cases h : p.q = q
    · rw [putN_same _ _ _ _ h, putN_same _ _ _ _ h, putN_same _ _ _ _ rfl]
      simp only [L_inj (show L (p.t ++ a ++ b) = L (p.t ++ (a ++ b)) by simp [L_append])]
    · rw [putN_other _ _ _ _ h, putN_other _ _ _ _ h, putN_same _ _ _ _ rfl]
theorem putN_len (l : List Pc) (t : ByteArray) (q : Bool) : (putN l t q).length ≤ l.length + 1 := by
  rcases snoc_or l with rfl | ⟨m, p, rfl⟩
  · rw [putN_nil]; simp
  · by_cases h : p.q = q
    · rw [putN_same _ _ _ _ h]; simp
    · rw [putN_other _ _ _ _ h]; simp

def flat (l : List Pc) : List Sg := l.flatMap fun p => (L p.t).map fun b => ⟨b, p.q⟩
theorem flat_put (l : List Pc) (t : ByteArray) (q : Bool) : flat (putN l t q) = flat l ++ (L t).map fun b => ⟨b, q⟩ := by
  rcases snoc_or l with rfl | ⟨m, p, rfl⟩
  · rw [putN_nil]; simp [flat]
  · by_cases h : p.q = q
    · rw [putN_same _ _ _ _ h]; simp [flat, L_append, h]
    · rw [putN_other _ _ _ _ h]; simp [flat]
/-- No two that are quoted alike stand side by side. -/
def Alt (l : List Pc) : Prop := ∀ k p r, l[k]? = some p → l[k + 1]? = some r → p.q ≠ r.q
theorem Alt.nil : Alt [] := by intro k p r h; simp at h
theorem Alt.init {l : List Pc} {p : Pc} (h : Alt (l ++ [p])) : Alt l := by
  intro k a b ha hb
  have h1 := (List.getElem?_eq_some_iff.1 ha).1
  have h2 := (List.getElem?_eq_some_iff.1 hb).1
  exact h k a b (by rw [List.getElem?_append_left h1]; exact ha) (by rw [List.getElem?_append_left h2]; exact hb)
theorem Alt.snoc {l : List Pc} {r : Pc} (h : Alt l) (hl : ∀ p, l.getLast? = some p → p.q ≠ r.q) : Alt (l ++ [r]) := by
  intro k a b ha hb
  have h2 := (List.getElem?_eq_some_iff.1 hb).1
  simp at h2
  by_cases hk : k + 1 < l.length
  · rw [List.getElem?_append_left (by omega)] at ha
    rw [List.getElem?_append_left hk] at hb
    exact h k a b ha hb
  · have hk2 : k + 1 = l.length := by omega
    rw [List.getElem?_append_left (by omega)] at ha
    rw [List.getElem?_append_right (by omega), hk2] at hb
    simp at hb
    subst hb
    exact hl a (by rw [List.getLast?_eq_getElem?, ← hk2]; simpa using ha)
theorem Alt.last {l : List Pc} {p : Pc} (h : Alt (l ++ [p])) : ∀ x, l.getLast? = some x → x.q ≠ p.q := by
  intro x hx
  rcases snoc_or l with rfl | ⟨m, y, rfl⟩
  · simp at hx
  · simp at hx; subst hx
    exact h m.length y p (by simp) (by rw [List.getElem?_append_right (by simp)]; simp)
theorem Alt.put {l : List Pc} (h : Alt l) (t : ByteArray) (q : Bool) : Alt (putN l t q) := by
  rcases snoc_or l with rfl | ⟨m, p, rfl⟩
  · rw [putN_nil]; exact Alt.snoc (l := []) Alt.nil (by simp)
  · by_cases hq : p.q = q
    · rw [putN_same _ _ _ _ hq]
      exact h.init.snoc fun x hx => by have := h.last x hx; rw [hq] at this; exact this
    · rw [putN_other _ _ _ _ hq]
      exact h.snoc fun x hx => by simp at hx; subst hx; exact hq

/-! ### the machine that splits -/
structure St where
  out : List (List Pc)
  now : List Pc
  op : Bool
  due : Bool
def St0 : St := ⟨[], [], false, false⟩
def putS (s : St) (t : ByteArray) (q : Bool) : St := ⟨s.out, putN s.now t q, true, false⟩
def endS (s : St) (must : Bool) : St := ⟨if s.op || must then s.out ++ [s.now] else s.out, [], false, s.due⟩
def isW (c : UInt8) : Bool := c == 32 || c == 9 || c == 10
def hasBf (l : List UInt8) (c : UInt8) : Bool := decide (c ∈ l)
def stepB (ifs : List UInt8) (s : St) (c : UInt8) : St :=
  if hasBf ifs c then if isW c then (if s.op then ⟨s.out ++ [s.now], [], false, true⟩ else s) else if s.due then ⟨s.out, s.now, s.op, false⟩ else endS s true
  else putS s (S [c]) false
def stepP (ifs : List UInt8) (s : St) (p : In) : St :=
  if p.b then ⟨(endS s false).out, [], false, false⟩ else if p.q then putS s p.t true else if p.s then (L p.t).foldl (stepB ifs) s else if (L p.t).isEmpty then s else putS s p.t false
def splitF (ifs : List UInt8) (l : List In) : List (List Pc) := (endS (l.foldl (stepP ifs) St0) false).out

theorem fold_plain (ifs : List UInt8) : ∀ (t : List UInt8) (s : St), t ≠ [] → (∀ c ∈ t, hasBf ifs c = false) → t.foldl (stepB ifs) s = putS s (S t) false
  | [], _, h, _ => absurd rfl h
  | [c], s, _, h => by
    show stepB ifs s c = _
    rw [stepB, h c (by simp)]; rfl
  | c :: d :: t, s, _, h => by
    rw [List.foldl_cons, fold_plain ifs (d :: t) _ (by simp) (fun x hx => h x (by simp [hx]))]
    rw [stepB, h c (by simp)]
    show putS (putS s (S [c]) false) (S (d :: t)) false = _
    simp only [putS, putN_putN, S_append]
    rfl

/-! ### how many -/
def cnt (s : St) : Nat := s.out.length + s.now.length
theorem cnt_put (s : St) (t : ByteArray) (q : Bool) : cnt (putS s t q) ≤ cnt s + 1 := by
  have := putN_len s.now t q
  show s.out.length + (putN s.now t q).length ≤ s.out.length + s.now.length + 1
  omega
theorem cnt_end (s : St) (m : Bool) : cnt (endS s m) ≤ cnt s + 1 := by
  unfold endS cnt
  split <;> simp <;> omega
theorem cnt_step (ifs : List UInt8) (s : St) (c : UInt8) : cnt (stepB ifs s c) ≤ cnt s + 1 := by
  unfold stepB
  split
  · split
    · split
      · simp [cnt]
      · omega
    · split
      · simp [cnt]
      · exact cnt_end s true
  · exact cnt_put _ _ _
theorem cnt_fold (ifs : List UInt8) : ∀ (t : List UInt8) (s : St), cnt (t.foldl (stepB ifs) s) ≤ cnt s + t.length
  | [], _ => Nat.le_refl _
  | c :: t, s => by
    have h1 := cnt_fold ifs t (stepB ifs s c)
    have h2 := cnt_step ifs s c
    simp; omega
def wt (p : In) : Nat := 1 + if p.s && !p.q && !p.b then p.t.size else 0
theorem cnt_piece (ifs : List UInt8) (s : St) (p : In) : cnt (stepP ifs s p) ≤ cnt s + wt p := by
  obtain ⟨t, q, sp, b⟩ := p
  unfold stepP wt
  cases b with
  | true =>
    have := cnt_end s false
    simp [cnt] at this ⊢; omega
  | false =>
    cases q with
    | true => have := cnt_put s t true; simp; omega
    | false =>
      cases sp with
      | true => have := cnt_fold ifs (L t) s; rw [L_size] at this; simp; omega
      | false =>
        simp
        split
        · omega
        · have := cnt_put s t false; omega

/-! ### the fields alternate -/
def AltS (s : St) : Prop := (∀ l ∈ s.out, Alt l) ∧ Alt s.now
theorem AltS.put {s : St} (h : AltS s) (t : ByteArray) (q : Bool) : AltS (putS s t q) := ⟨h.1, h.2.put t q⟩
theorem AltS.done {s : St} (h : AltS s) : ∀ l ∈ s.out ++ [s.now], Alt l := fun l hl => by
  rcases List.mem_append.1 hl with hl | hl
  · exact h.1 l hl
  · simp at hl; subst hl; exact h.2
theorem AltS.ends {s : St} (h : AltS s) (m : Bool) : AltS (endS s m) := by
  refine ⟨fun l hl => ?_, Alt.nil⟩
  unfold endS at hl
  split at hl
  · exact h.done l hl
  · exact h.1 l hl
theorem AltS.step {s : St} (h : AltS s) (ifs : List UInt8) (c : UInt8) : AltS (stepB ifs s c) := by
  unfold stepB
  split
  · split
    · split
      · exact ⟨h.done, Alt.nil⟩
      · exact h
    · split
      · exact ⟨h.1, h.2⟩
      · exact h.ends true
  · exact h.put _ _
theorem AltS.fold (ifs : List UInt8) : ∀ (t : List UInt8) (s : St), AltS s → AltS (t.foldl (stepB ifs) s)
  | [], _, h => h
  | c :: t, _, h => AltS.fold ifs t _ (h.step ifs c)
theorem AltS.piece {s : St} (h : AltS s) (ifs : List UInt8) (p : In) : AltS (stepP ifs s p) := by
  unfold stepP
  split
  · exact ⟨(h.ends false).1, Alt.nil⟩
  · split
    · exact h.put _ _
    · split
      · exact AltS.fold ifs _ _ h
      · split
        · exact h
        · exact h.put _ _
theorem AltS.pieces (ifs : List UInt8) : ∀ (l : List In) (s : St), AltS s → AltS (l.foldl (stepP ifs) s)
  | [], _, h => h
  | p :: l, _, h => AltS.pieces ifs l _ (h.piece ifs p)
theorem split_alt (ifs : List UInt8) (l : List In) : ∀ f ∈ splitF ifs l, Alt f :=
  ((AltS.pieces ifs l St0 ⟨by simp [St0], Alt.nil⟩).ends false).1

/-! ### the document's machine -/
structure Rt where
  out : List (List Sg)
  now : List Sg
  op : Bool
  due : Bool
def Rt0 : Rt := ⟨[], [], false, false⟩
def stepR (ifs : List UInt8) (q sp : Bool) (s : Rt) (c : UInt8) : Rt :=
  if q || !sp || !hasBf ifs c then ⟨s.out, s.now ++ [⟨c, q⟩], true, false⟩
  else if isW c then (if s.op then ⟨s.out ++ [s.now], [], false, true⟩ else s) else if s.due then ⟨s.out, s.now, s.op, false⟩ else ⟨s.out ++ [s.now], [], false, false⟩
def openR (q : Bool) (s : Rt) : Rt := if q then ⟨s.out, s.now, true, false⟩ else s
def stepRP (ifs : List UInt8) (s : Rt) (p : In) : Rt :=
  if p.b then ⟨if s.op then s.out ++ [s.now] else s.out, [], false, false⟩ else (L p.t).foldl (stepR ifs p.q p.s) (openR p.q s)
def refSplit (ifs : List UInt8) (l : List In) : List (List Sg) := if (l.foldl (stepRP ifs) Rt0).op then (l.foldl (stepRP ifs) Rt0).out ++ [(l.foldl (stepRP ifs) Rt0).now] else (l.foldl (stepRP ifs) Rt0).out
def fl (s : St) : Rt := ⟨s.out.map flat, flat s.now, s.op, s.due⟩

theorem fold_all (ifs : List UInt8) (q sp : Bool) (h : (q || !sp) = true) : ∀ (t : List UInt8) (s : Rt), t.foldl (stepR ifs q sp) s = if t.isEmpty then s else ⟨s.out, s.now ++ t.map (fun b => ⟨b, q⟩), true, false⟩
  | [], _ => rfl
  | c :: t, s => by
    rw [List.foldl_cons, fold_all ifs q sp h t, stepR, h]
    cases t <;> simp
theorem fl_step (ifs : List UInt8) (s : St) (c : UInt8) : fl (stepB ifs s c) = stepR ifs false true (fl s) c := by
  unfold stepB stepR
  cases h : hasBf ifs c with
  | false => simp [fl, putS, flat_put, L_S]
  | true =>
    cases isW c with
    | true =>
      cases h2 : s.op <;> simp [fl, flat, h2]
    | false =>
      cases h2 : s.due <;> simp [fl, flat, h2, endS]
theorem fl_fold (ifs : List UInt8) : ∀ (t : List UInt8) (s : St), fl (t.foldl (stepB ifs) s) = t.foldl (stepR ifs false true) (fl s)
  | [], _ => rfl
  | c :: t, s => by rw [List.foldl_cons, List.foldl_cons, fl_fold ifs t, fl_step]
theorem fl_piece (ifs : List UInt8) (s : St) (p : In) : fl (stepP ifs s p) = stepRP ifs (fl s) p := by
  obtain ⟨t, q, sp, b⟩ := p
  unfold stepP stepRP
  cases b with
  | true =>
    show Rt.mk ((endS s false).out.map flat) [] false false = Rt.mk (if s.op then s.out.map flat ++ [flat s.now] else s.out.map flat) [] false false
    unfold endS
    cases h : s.op <;> simp
  | false =>
    cases q with
    | true =>
      simp only [Bool.false_eq_true, if_false, if_true]
      rw [fold_all ifs true sp rfl]
      simp [fl, putS, flat_put, openR]
    | false =>
      cases sp with
      | true => simp [openR, fl_fold]
      | false =>
        simp only [Bool.false_eq_true, if_false]
        rw [fold_all ifs false false rfl]
        cases h : (L t).isEmpty with
        | true => rfl
        | false => simp [openR, fl, putS, flat_put]
theorem fl_pieces (ifs : List UInt8) : ∀ (l : List In) (s : St), fl (l.foldl (stepP ifs) s) = l.foldl (stepRP ifs) (fl s)
  | [], _ => rfl
  | p :: l, s => by rw [List.foldl_cons, List.foldl_cons, fl_pieces ifs l, fl_piece]
theorem split_ref (ifs : List UInt8) (l : List In) : (splitF ifs l).map flat = refSplit ifs l := by
  have h := fl_pieces ifs l St0
  have e : fl St0 = Rt0 := rfl
  rw [e] at h
  unfold refSplit splitF
  rw [← h]
  unfold endS
  show _ = if (l.foldl (stepP ifs) St0).op then ((l.foldl (stepP ifs) St0).out).map flat ++ [flat (l.foldl (stepP ifs) St0).now] else ((l.foldl (stepP ifs) St0).out).map flat
  cases (l.foldl (stepP ifs) St0).op <;> simp

/-! ### joined -/
def joinP (by_ : ByteArray) (o : List Pc) (p : In) : List Pc := if p.b then putN o by_ true else putN o p.t p.q
def joinF (by_ : ByteArray) (l : List In) : List Pc := l.foldl (joinP by_) []
def joinR (by_ : ByteArray) (o : List Sg) (p : In) : List Sg := o ++ (if p.b then (L by_).map (fun b => ⟨b, true⟩) else (L p.t).map (fun b => ⟨b, p.q⟩))
theorem fl_join (by_ : ByteArray) : ∀ (l : List In) (o : List Pc), flat (l.foldl (joinP by_) o) = l.foldl (joinR by_) (flat o)
  | [], _ => rfl
  | p :: l, o => by
    rw [List.foldl_cons, List.foldl_cons, fl_join by_ l]
    congr 1
    unfold joinP joinR
    cases p.b <;> simp [flat_put]
theorem join_len (by_ : ByteArray) (o : List Pc) (p : In) : (joinP by_ o p).length ≤ o.length + 1 := by
  unfold joinP
  split <;> exact putN_len _ _ _

/-! ### quoted texts with breaks between -/
def one (t : ByteArray) (q : Bool) : List Pc := [⟨t, q⟩]
def qPieces : List ByteArray → List In
  | [] => []
  | s :: l => ⟨s, true, false, false⟩ :: l.flatMap fun s => [⟨⟨#[]⟩, false, false, true⟩, ⟨s, true, false, false⟩]
theorem quotes_go (ifs : List UInt8) : ∀ (l : List ByteArray) (o : List (List Pc)) (s : ByteArray), (endS ((l.flatMap fun s => [(⟨⟨#[]⟩, false, false, true⟩ : In), ⟨s, true, false, false⟩]).foldl (stepP ifs) ⟨o, one s true, true, false⟩) false).out = o ++ (s :: l).map (one · true)
  | [], o, s => by simp [endS]
  | t :: l, o, s => by
    have h := quotes_go ifs l (o ++ [one s true]) t
    rw [List.flatMap_cons, List.foldl_append]
    show (endS ((l.flatMap fun s => [(⟨⟨#[]⟩, false, false, true⟩ : In), ⟨s, true, false, false⟩]).foldl (stepP ifs) ⟨o ++ [one s true], one t true, true, false⟩) false).out = _
    rw [h]; simp
theorem quotes_split (ifs : List UInt8) (l : List ByteArray) : splitF ifs (qPieces l) = l.map (one · true) := by
  cases l with
  | nil => rfl
  | cons s l => exact quotes_go ifs l [] s
theorem qPieces_take {l : List ByteArray} {k : Nat} {s : ByteArray} (h : l[k]? = some s) : qPieces (l.take (k + 1)) = qPieces (l.take k) ++ (if k = 0 then [⟨s, true, false, false⟩] else [⟨⟨#[]⟩, false, false, true⟩, ⟨s, true, false, false⟩]) := by
  obtain ⟨hk, rfl⟩ := List.getElem?_eq_some_iff.1 h
  rw [List.take_succ_eq_append_getElem hk]
  cases k with
  | zero => simp [qPieces]
  | succ k =>
    cases l with
    | nil => simp at hk
    | cons t l =>
      have hk2 : k < l.length := by simpa using hk
      rw [List.take_succ_cons]
      simp [qPieces]
      rw [List.take_succ_eq_append_getElem hk2, List.flatMap_append]
      rfl
theorem qPieces_wt : ∀ (l : List ByteArray), ((qPieces l).map wt).sum ≤ 2 * l.length ∧ (qPieces l).length ≤ 2 * l.length
  | [] => ⟨Nat.le_refl _, Nat.le_refl _⟩
  | s :: l => by
    have key : ∀ l : List ByteArray, ((l.flatMap fun s => [(⟨⟨#[]⟩, false, false, true⟩ : In), ⟨s, true, false, false⟩]).map wt).sum = 2 * l.length ∧ (l.flatMap fun s => [(⟨⟨#[]⟩, false, false, true⟩ : In), ⟨s, true, false, false⟩]).length = 2 * l.length := by
      intro l
      induction l with
      | nil => exact ⟨rfl, rfl⟩
      | cons t l ih =>
        obtain ⟨h1, h2⟩ := ih
        rw [List.flatMap_cons, List.map_append, List.sum_append, h1, List.length_append, h2]
        simp [wt]; omega
    obtain ⟨h1, h2⟩ := key l
    simp only [qPieces, List.map_cons, List.sum_cons, List.length_cons, h1, h2]
    simp [wt]; omega

/-! ### words with blanks between -/
def blankOf (i : Nat) : UInt8 := if i % 3 = 0 then 32 else if i % 3 = 1 then 9 else 10
def ifs3 : List UInt8 := [32, 9, 10]
theorem blank_in (i : Nat) : hasBf ifs3 (blankOf i) = true ∧ isW (blankOf i) = true := by
  unfold blankOf
  split
  · exact ⟨rfl, rfl⟩
  · split <;> exact ⟨rfl, rfl⟩
def wordsT (b : Nat) : Nat → List ByteArray → List UInt8
  | _, [] => []
  | i, w :: ws => List.replicate b (blankOf i) ++ L w ++ wordsT b (i + 1) ws
theorem wordsT_snoc (b : Nat) : ∀ (a : List ByteArray) (i : Nat) (w : ByteArray), wordsT b i (a ++ [w]) = wordsT b i a ++ (List.replicate b (blankOf (i + a.length)) ++ L w)
  | [], i, w => by simp [wordsT]
  | x :: a, i, w => by
    rw [List.cons_append, wordsT, wordsT, wordsT_snoc b a, List.length_cons, show i + 1 + a.length = i + (a.length + 1) by omega]
    simp
theorem blanks_fold (i : Nat) : ∀ (n : Nat) (s : St), s.op = false → (List.replicate n (blankOf i)).foldl (stepB ifs3) s = s
  | 0, _, _ => rfl
  | n + 1, s, h => by
    have e : stepB ifs3 s (blankOf i) = s := by
      rw [stepB, (blank_in i).1, (blank_in i).2, h]; rfl
    rw [List.replicate_succ, List.foldl_cons, e]
    exact blanks_fold i n s h
theorem blanks_open (i : Nat) (n : Nat) (s : St) (h : s.op = true) (hn : 0 < n) : (List.replicate n (blankOf i)).foldl (stepB ifs3) s = ⟨s.out ++ [s.now], [], false, true⟩ := by
  obtain ⟨m, rfl⟩ : ∃ m, n = m + 1 := ⟨n - 1, by omega⟩
  have e : stepB ifs3 s (blankOf i) = ⟨s.out ++ [s.now], [], false, true⟩ := by
    rw [stepB, (blank_in i).1, (blank_in i).2, h]; rfl
  rw [List.replicate_succ, List.foldl_cons, e]
  exact blanks_fold i m _ rfl
def WordOk (w : ByteArray) : Prop := L w ≠ [] ∧ ∀ c ∈ L w, hasBf ifs3 c = false
def stW (ws : List ByteArray) : St := match ws.getLast? with
  | none => St0
  | some w => ⟨ws.dropLast.map (one · false), one w false, true, false⟩
theorem words_state (b : Nat) (hb : 0 < b) (ws : List ByteArray) (hw : ∀ w ∈ ws, WordOk w) : ∀ k, k ≤ ws.length → (wordsT b 0 (ws.take k)).foldl (stepB ifs3) St0 = stW (ws.take k)
  | 0, _ => rfl
  | k + 1, hk => by
    have hk' : k < ws.length := by omega
    have ih := words_state b hb ws hw k (by omega)
    obtain ⟨w, hwk⟩ : ∃ w, ws[k]? = some w := ⟨_, List.getElem?_eq_getElem hk'⟩
    have ht : ws.take (k + 1) = ws.take k ++ [w] := by
      rw [List.take_succ_eq_append_getElem hk']
      congr
      have := List.getElem?_eq_getElem hk'
      rw [hwk] at this
      exact (Option.some.inj this).symm
    obtain ⟨w1, w2⟩ := hw w (List.mem_of_getElem? hwk)
    rw [ht, wordsT_snoc, List.foldl_append, ih, List.foldl_append]
    have hs : stW (ws.take k ++ [w]) = ⟨(ws.take k).map (one · false), one w false, true, false⟩ := by simp [stW]
    rw [hs]
    rcases snoc_or (ws.take k) with e | ⟨m, x, e⟩
    · rw [e]
      rw [show stW [] = St0 from rfl, blanks_fold _ _ _ rfl, fold_plain _ _ _ w1 w2]
      rfl
    · rw [e]
      have hs2 : stW (m ++ [x]) = ⟨m.map (one · false), one x false, true, false⟩ := by simp [stW]
      rw [hs2, blanks_open _ _ _ rfl hb, fold_plain _ _ _ w1 w2]
      simp [putS, putN_nil, one, S_L]
theorem words_split (b : Nat) (hb : 0 < b) (ws : List ByteArray) (hw : ∀ w ∈ ws, WordOk w) : splitF ifs3 [⟨S (wordsT b 0 ws ++ [32]), false, true, false⟩] = ws.map (one · false) := by
  have h := words_state b hb ws hw ws.length (Nat.le_refl _)
  rw [List.take_length] at h
  show (endS ((L (S (wordsT b 0 ws ++ [32]))).foldl (stepB ifs3) St0) false).out = _
  rw [L_S, List.foldl_append, h]
  rcases snoc_or ws with rfl | ⟨m, x, rfl⟩
  · rfl
  · have hs2 : stW (m ++ [x]) = ⟨m.map (one · false), one x false, true, false⟩ := by simp [stW]
    rw [hs2]
    rw [List.foldl_cons, List.foldl_nil, stepB, if_pos (by decide), if_pos (by decide)]
    simp [endS]
theorem wordsT_len (b : Nat) (hb : b ≤ 5) : ∀ (i : Nat) (ws : List ByteArray), (∀ w ∈ ws, w.size ≤ 100) → (wordsT b i ws).length ≤ 105 * ws.length
  | _, [], _ => Nat.le_refl _
  | i, w :: ws, h => by
    have h1 := wordsT_len b hb (i + 1) ws (fun x hx => h x (by simp [hx]))
    have h2 := h w (by simp)
    rw [wordsT, List.length_append, List.length_append, List.length_replicate, L_size, List.length_cons]
    omega
end Go.Proofs.YtjeinpadcknfbaaGreatDoor
namespace Go.Proofs.YtjeinpadcknfbaaGreatDoor
open Go.RowKit

theorem indexAt_any (s : ByteArray) (c : UInt8) (v : Int) (w : World) (hv : Lib.indexByte (L s) c = v) :
    Calls Tryz.prog 46 #[.string s, .int .u8 ((c.toNat : Nat) : Int)] w fun e w' => e = .returned (.int .i64 v) ∧ w' = w := by
  subst hv
  refine (Tryz.strings_IndexByte s ((c.toNat : Nat) : Int) w).mono fun e w' ⟨h1, h2⟩ => ⟨?_, h2⟩
  rw [h1]
  simp [L]
end Go.Proofs.YtjeinpadcknfbaaGreatDoor
