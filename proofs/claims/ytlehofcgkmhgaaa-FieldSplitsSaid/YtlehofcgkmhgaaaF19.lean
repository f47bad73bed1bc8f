/-
  The walk of FieldSplits.
-/
import Derived.Test.YtlehofcgkmhgaaaF18
namespace Go.Proofs.Ytlehofcgkmhgaaa
open Go.RowKit

theorem szs_wr (l : List In) : (l.map wr1).sum = l.length + szs l := by
  induction l with
  | nil => rfl
  | cons p l ih =>
    have e : szs (p :: l) = p.t.size + szs l := by simp [szs]
    rw [List.map_cons, List.sum_cons, ih, List.length_cons, e]
    unfold wr1
    omega

set_option maxHeartbeats 8000000 in
set_option maxRecDepth 100000 in
theorem splits_any (l : List In) (v : Value) (ifs : ByteArray) (w : World) (hl : Sl w w.heap.size 4 v l.length (l.flatMap inC)) (hz : ∀ p ∈ l, p.t.size ≤ 140737488355328) (hn : l.length * 24 ≤ 140737488355328) (hi : ifs.size ≤ 9223372036854775807) :
    Calls Try.prog 5 #[v, .string ifs] w fun e w' => e = .returned (.bool true) ∧ Below w.heap.size w w' := by
  have CR : Hid (∀ W, Below w.heap.size w W → Calls Try.prog 9 #[v] W (RefsPost l W)) := Lib.hid fun W hW => refs_any l v W ((hl.below hW).mono hW.size) hz hn
  by_cases h5 : szs l ≤ 500
  · by_cases h60 : l.length ≤ 60
    · by_cases h20 : (20 : Int) < (ifs.size : Int)
      · have CR2 : Hid (∀ W, Below w.heap.size w W → Calls Try.prog 9 #[v] W fun e w' => ∃ x, e = .returned (.tuple #[x, .bool true]) ∧ Below W.heap.size W w') := Lib.hid fun W hW => (CR.out W hW).mono fun e w' h => by
          obtain ⟨h1, h2⟩ := h
          rw [if_pos h5] at h2
          obtain ⟨x, h3, _⟩ := h2
          rw [decide_eq_true h60] at h3
          exact ⟨x, h3, h1⟩
        clear CR hl hz hn h5 h60
        go_enter Try.func5, Try.ntmps5
        go_wp2_with fail
        refine (anchor_any _).mono ?_
        rintro e w1 ⟨rfl, hb1⟩
        go_wp2_with fail
        refine (CR2.out _ hb1).mono ?_
        rintro e w2 ⟨x, rfl, hb2⟩
        go_wp2
        go_ret
        exact ⟨rfl, hb1.trans (hb2.mono hb1.size)⟩
      · have hi20 : ifs.size ≤ 20 := by omega
        obtain ⟨fs, hfs⟩ : ∃ fs, fs = splitF (L ifs) l := ⟨_, rfl⟩
        obtain ⟨jf, hjf⟩ : ∃ f, f = joinF ifs l := ⟨_, rfl⟩
        have HTX : Hid (∀ f ∈ fs, (textL f).length ≤ 500) := Lib.hid fun f hf => by rw [hfs] at hf; exact Nat.le_trans (split_texts _ _ f hf) h5
        have HALT : Hid (∀ f ∈ fs, Alt f) := Lib.hid fun f hf => by rw [hfs] at hf; exact split_alt _ _ f hf
        have HJT : Hid ((textL jf).length ≤ 1700) := Lib.hid (by
          have := (jK_facts ifs l h5 h60 hi20 l.length).2
          unfold jK at this
          rw [List.take_length] at this
          rw [hjf]; exact this)
        have CR2 : Hid (∀ W, Below w.heap.size w W → Calls Try.prog 9 #[v] W fun e w' => ∃ x, e = .returned (.tuple #[x, .bool true]) ∧ Below W.heap.size W w' ∧ w'.ownsRow W.heap.size 65 4 x l.length (l.flatMap inC)) := Lib.hid fun W hW => (CR.out W hW).mono fun e w' h => by
          obtain ⟨h1, h2⟩ := h
          rw [if_pos h5] at h2
          obtain ⟨x, h3, h4⟩ := h2
          rw [decide_eq_true h60] at h3
          exact ⟨x, h3, h1, h4⟩
        have CS : Hid (∀ W, Below w.heap.size w W → Calls Try.prog 7 #[v, .string ifs] W (SplitPost fs W)) := Lib.hid fun W hW => by
          rw [hfs]
          exact Split_any ifs l v W ((hl.below hW).mono hW.size) hi (FitL.small (by unfold szs at h5; omega) (by omega))
        have CRS : Hid (∀ W x, Sl W W.heap.size 4 x l.length (l.flatMap inC) → Calls Try.prog 10 #[x, .string ifs] W (RSplitPost (fs.map flat) W)) := Lib.hid fun W x hx => by
          rw [hfs, split_ref]
          exact rsplit_any ifs l x W hx (by omega) (by rw [szs_wr]; omega)
        have CJ : Hid (∀ W, Below w.heap.size w W → Calls Try.prog 12 #[v, .string ifs] W (JoinPost jf W)) := Lib.hid fun W hW => by
          rw [hjf]
          exact join_any ifs l v W ((hl.below hW).mono hW.size) h5 h60 hi20
        have CRJ : Hid (∀ W x, Sl W W.heap.size 4 x l.length (l.flatMap inC) → Calls Try.prog 13 #[x, .string ifs] W (RJoinPost (flat jf) W)) := Lib.hid fun W x hx => by
          rw [hjf]
          exact rjoin_any ifs l x W hx h5 h60 hi20
        clear CR hl hz hn h5 h60 hfs hjf hi
        go_enter Try.func5, Try.ntmps5
        go_wp2_with fail
        refine (anchor_any _).mono ?_
        rintro e w1 ⟨rfl, hb1⟩
        have HB1 := Lib.hid hb1
        clear hb1
        go_wp2_with fail
        refine (CR2.out _ HB1.out).mono ?_
        rintro e w2 ⟨x, rfl, hb2, hox⟩
        have HB2 := Lib.hid (HB1.out.trans (hb2.mono HB1.out.size))
        have HOX := Lib.hid hox
        clear hb2 hox CR2
        go_wp2_with fail
        refine (CS.out _ HB2.out).mono ?_
        rintro e w3 ⟨hb3, gv, rfl, hog⟩
        have HB3 := Lib.hid (HB2.out.trans (hb3.mono HB2.out.size))
        have HOX3 := Lib.hid (own_below HOX.out hb3)
        have HOG3 := Lib.hid hog
        clear hb3 hog CS HOX
        go_wp2_with fail
        refine (CRS.out _ _ (Sl.of_own HOX3.out)).mono ?_
        rintro e w4 ⟨hb4, wv, rfl, hor⟩
        have HB4 := Lib.hid (HB3.out.trans (hb4.mono HB3.out.size))
        have HOX4 := Lib.hid (own_below HOX3.out hb4)
        have hog := HOG3.out.below hb4
        obtain ⟨ga, gc, rfl⟩ := hog.shape
        obtain ⟨ra, rc, rfl⟩ := hor.shape
        rw [List.length_map] at hor ⊢
        obtain ⟨N, hN⟩ : ∃ N, N = fs.length := ⟨_, rfl⟩
        have hNm : N ≤ 9223372036854775807 := by
          have h1 := hog
          obtain ⟨fv, q1, q2, q3⟩ := h1
          have h2 := (Sl.of_own q1).len
          unfold maxLen at h2
          rw [hN, ← q3, List.length_map]
          omega
        rw [← hN] at hog hor ⊢
        have HOG := Lib.hid hog
        have HOR := Lib.hid hor
        have HN := Lib.hid hN
        clear hb4 hog hor hN CRS HOX3 HOG3
        go_wp2_with fail
        go_loopw [38] (fun i wr => ∃ k : Nat, k ≤ N ∧ i = .int .i64 k ∧ Below w4.heap.size w4 wr) (fun i _ => N - (intOf i).toNat)
        case atStart => exact ⟨0, Nat.zero_le _, rfl, Below.refl _ _⟩
        case round =>
          obtain ⟨k, hk, rfl, hb5⟩ := hrel
          obtain ⟨wo, rfl⟩ : ∃ wo : World, wo = wr := ⟨_, rfl⟩
          by_cases hlt : k < N
          · obtain ⟨f, hf⟩ : ∃ f, fs[k]? = some f := ⟨_, List.getElem?_eq_getElem (by rw [← HN.out]; exact hlt)⟩
            have hmem := List.mem_of_getElem? hf
            obtain ⟨b1, o1, y, j1, hb1, e1, r1⟩ := (HOG.out.below hb5).field hf (k : Int) rfl
            obtain ⟨b2, o2, u, j2, hb2, e2, r2⟩ := (HOR.out.below hb5).field (k := k) (f := flat f) (by rw [List.getElem?_map, hf]; rfl) (k : Int) rfl
            have CI : Hid (∀ d os, Calls Try.prog 11 #[y, .agg #[u]] (Sort.grow (redrawn wo d) os) fun e w'' => e = .returned (.bool true) ∧ ∃ q : Regrown, w'' = Sort.grow (redrawn wo q.d) q.os) := Lib.hid fun d os =>
              Calls.regrown_of (is_any f y u _ (Sl.of_own (own_below r1 (below_regrown wo d os))) (Sl.of_own (own_below r2 (below_regrown wo d os))) (by have := HTX.out f hmem; omega))
            obtain ⟨ya, yc, rfl⟩ := own_shape r1
            obtain ⟨ua, uc, rfl⟩ := own_shape r2
            have hc1 : ∀ d os, (Sort.grow (redrawn wo d) os).cell? ⟨b1, o1, none⟩ = _ := fun d os => cell_regrown e1 d os
            have hc2 : ∀ d os, (Sort.grow (redrawn wo d) os).cell? ⟨b2, o2, none⟩ = _ := fun d os => cell_regrown e2 d os
            have HR1 := Lib.hid r1
            have HE1 := Lib.hid e1
            have HB5 := Lib.hid hb5
            have HAL := Lib.hid (HALT.out f hmem)
            obtain ⟨M, hM⟩ : ∃ M, M = f.length := ⟨_, rfl⟩
            have hMm : M ≤ 9223372036854775807 := by
              have h2 := (Sl.of_own r1).len
              unfold maxLen at h2
              omega
            rw [← hM] at HR1 HE1 hc1 CI
            have HM := Lib.hid hM
            clear r1 r2 e1 e2 hb5 hf hmem hM
            go_wp2_with fail
            refine wp_region_quiet_below (by kernel_rfl) (by kernel_rfl) ?_
            repeat (go_big_quiet_step (with_reducible first | exact CI.out _ _))
            refine wpQuiet_nil ?_
            intro _ hw'
            obtain ⟨⟨dq, osq⟩, hw''⟩ := hw'
            subst hw''
            have HBQ := Lib.hid (below_regrown wo dq osq)
            obtain ⟨wq, hwq⟩ : ∃ wq, wq = Sort.grow (redrawn wo dq) osq := ⟨_, rfl⟩
            rw [← hwq] at HBQ ⊢
            have HCQ : Hid (wq.cell? ⟨b1, o1, none⟩ = some (.slice ya M yc)) := Lib.hid (by rw [hwq]; exact hc1 dq osq)
            have hb1q : b1 < wq.heap.size := Nat.lt_of_lt_of_le hb1 HBQ.out.size
            clear hc1 hc2 hwq CI
            go_wp2_with fail
            go_loopw [10] (fun i wi => ∃ m : Nat, 1 ≤ m ∧ (m ≤ M ∨ m = 1) ∧ i = .int .i64 m ∧ Below wq.heap.size wq wi) (fun i _ => M - (intOf i).toNat)
            case atStart => exact ⟨1, Nat.le_refl _, .inr rfl, rfl, Below.refl _ _⟩
            case round =>
              obtain ⟨m, hm1, hmM, rfl, hb6⟩ := hrel
              obtain ⟨wi, rfl⟩ : ∃ wi : World, wi = wr := ⟨_, rfl⟩
              have hcw : wi.cell? ⟨b1, o1, none⟩ = some (.slice ya M yc) := (hb6.cell (p := ⟨b1, o1, none⟩) hb1q).trans HCQ.out
              have hbi1 : b1 < wi.heap.size := Nat.lt_of_lt_of_le hb1q hb6.size
              have HB6 := Lib.hid hb6
              by_cases hmt : m < M
              · obtain ⟨p, hp⟩ : ∃ p, f[m]? = some p := ⟨_, List.getElem?_eq_getElem (by rw [← HM.out]; exact hmt)⟩
                obtain ⟨q, hq⟩ : ∃ q, f[m - 1]? = some q := ⟨_, List.getElem?_eq_getElem (by rw [← HM.out]; omega)⟩
                have hne : q.q ≠ p.q := HAL.out (m - 1) q p hq (by rw [show m - 1 + 1 = m by omega]; exact hp)
                have hsl := (Sl.of_own HR1.out).below (HBQ.out.trans (hb6.mono HBQ.out.size))
                rw [HM.out] at hsl
                obtain ⟨b3, o3, j3, hb3, g3, g4⟩ := pc_at hsl hp (m : Int) rfl
                obtain ⟨b4, o4, j4, hb4, g5, g6⟩ := pc_at hsl hq ((m : Int) - 1) (by omega)
                rw [← HM.out] at j3 j4
                have hb3' : b3 < wi.heap.size := by have := HBQ.out.size; have := hb6.size; omega
                have hb4' : b4 < wi.heap.size := by have := HBQ.out.size; have := hb6.size; omega
                have hqq : (p.q == q.q) = false := by rw [beq_eq_false_iff_ne]; exact fun e => hne e.symm
                clear hsl hp hq hne hb6
                go_wp2_with fail
                go_quiet (fail)
                go_wp2
                go_roundw
                case rel => exact ⟨m + 1, by omega, .inl (by omega), by go_num, below_drewN HB6.out nq⟩
                case measure => simp [intOf]; omega
              · clear hb6
                go_wp2_with fail
                go_roundw
                case rel => exact ⟨k + 1, by omega, by go_num, HB5.out.trans ((HBQ.out.trans (HB6.out.mono HBQ.out.size)).mono HB5.out.size)⟩
                case measure => simp [intOf]; omega
          · have HB5 := Lib.hid (HB4.out.trans (hb5.mono HB4.out.size))
            have HOX5 := Lib.hid (own_below HOX4.out hb5)
            clear hb5
            go_wp2_with fail
            refine (CJ.out _ HB5.out).mono ?_
            rintro e w6 ⟨hb6, jv, rfl, hj⟩
            have HB6 := Lib.hid (HB5.out.trans (hb6.mono HB5.out.size))
            have HOX6 := Lib.hid (own_below HOX5.out hb6)
            have HJ6 := Lib.hid hj
            clear hb6 hj
            go_wp2_with fail
            refine (CRJ.out _ _ (Sl.of_own HOX6.out)).mono ?_
            rintro e w7 ⟨hb7, rv, rfl, hr⟩
            have HB7 := Lib.hid (HB6.out.trans (hb7.mono HB6.out.size))
            have CI := Lib.hid (is_any jf jv rv w7 (Sl.of_own (own_below HJ6.out hb7)) (Sl.of_own hr) (by have := HJT.out; omega))
            obtain ⟨ja, jc, rfl⟩ := own_shape HJ6.out
            obtain ⟨ra2, rc2, rfl⟩ := own_shape hr
            clear hb7 hr
            go_wp2_with fail
            refine CI.out.mono ?_
            rintro e w8 ⟨rfl, hb8⟩
            go_wp2
            go_ret
            exact ⟨rfl, HB7.out.trans (hb8.mono HB7.out.size)⟩
    · have CR2 : Hid (∀ W, Below w.heap.size w W → Calls Try.prog 9 #[v] W fun e w' => ∃ x, e = .returned (.tuple #[x, .bool false]) ∧ Below W.heap.size W w') := Lib.hid fun W hW => (CR.out W hW).mono fun e w' h => by
        obtain ⟨h1, h2⟩ := h
        rw [if_pos h5] at h2
        obtain ⟨x, h3, _⟩ := h2
        rw [decide_eq_false h60] at h3
        exact ⟨x, h3, h1⟩
      clear CR hl hz hn h5 h60
      go_enter Try.func5, Try.ntmps5
      go_wp2_with fail
      refine (anchor_any _).mono ?_
      rintro e w1 ⟨rfl, hb1⟩
      go_wp2_with fail
      refine (CR2.out _ hb1).mono ?_
      rintro e w2 ⟨x, rfl, hb2⟩
      go_wp2
      go_ret
      exact ⟨rfl, hb1.trans (hb2.mono hb1.size)⟩
  · have CR2 : Hid (∀ W, Below w.heap.size w W → Calls Try.prog 9 #[v] W fun e w' => e = .returned (.tuple #[.slice none 0 0, .bool false]) ∧ Below W.heap.size W w') := Lib.hid fun W hW => (CR.out W hW).mono fun e w' h => by
      obtain ⟨h1, h2⟩ := h
      rw [if_neg h5] at h2
      exact ⟨h2, h1⟩
    clear CR hl hz hn h5
    go_enter Try.func5, Try.ntmps5
    go_wp2_with fail
    refine (anchor_any _).mono ?_
    rintro e w1 ⟨rfl, hb1⟩
    go_wp2_with fail
    refine (CR2.out _ hb1).mono ?_
    rintro e w2 ⟨rfl, hb2⟩
    go_wp2
    go_ret
    exact ⟨rfl, hb1.trans (hb2.mono hb1.size)⟩
end Go.Proofs.Ytlehofcgkmhgaaa
