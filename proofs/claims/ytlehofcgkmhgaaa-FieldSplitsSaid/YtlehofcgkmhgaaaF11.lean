/-
  The walk of FieldCounts.
-/
import Derived.Test.YtlehofcgkmhgaaaF10
namespace Go.Proofs.Ytlehofcgkmhgaaa
open Go.RowKit

@[go_sem] theorem arr3_0 (w : World) : (Instr.index 33 (.agg #[.string ⟨#[32]⟩, .string ⟨#[9]⟩, .string ⟨#[10]⟩]) (.int .i64 0)).run Try.prog w = .ok (.string ⟨#[32]⟩) w := by kernel_rfl
@[go_sem] theorem arr3_1 (w : World) : (Instr.index 33 (.agg #[.string ⟨#[32]⟩, .string ⟨#[9]⟩, .string ⟨#[10]⟩]) (.int .i64 1)).run Try.prog w = .ok (.string ⟨#[9]⟩) w := by kernel_rfl
@[go_sem] theorem arr3_2 (w : World) : (Instr.index 33 (.agg #[.string ⟨#[32]⟩, .string ⟨#[9]⟩, .string ⟨#[10]⟩]) (.int .i64 2)).run Try.prog w = .ok (.string ⟨#[10]⟩) w := by kernel_rfl
theorem hasB3 (c : UInt8) : hasB ifs3 c = (c == 32 || c == 9 || c == 10) := by
  unfold hasB ifs3
  rw [Bool.eq_iff_iff]
  simp [or_assoc]
theorem wordsT_take (b : Nat) {l : List ByteArray} {k : Nat} {s : ByteArray} (h : l[k]? = some s) : wordsT b 0 (l.take (k + 1)) = wordsT b 0 (l.take k) ++ (List.replicate b (blankOf k) ++ L s) := by
  obtain ⟨hk, rfl⟩ := List.getElem?_eq_some_iff.1 h
  rw [List.take_succ_eq_append_getElem hk, wordsT_snoc, List.length_take, Nat.min_eq_left (by omega), Nat.zero_add]
theorem blank_cases (k : Nat) : ((k : Int) % 3 = 0 ∧ blankOf k = 32) ∨ ((k : Int) % 3 = 1 ∧ blankOf k = 9) ∨ ((k : Int) % 3 = 2 ∧ blankOf k = 10) := by
  unfold blankOf
  by_cases h0 : k % 3 = 0
  · exact .inl ⟨by omega, by rw [if_pos h0]⟩
  · by_cases h1 : k % 3 = 1
    · exact .inr (.inl ⟨by omega, by rw [if_neg h0, if_pos h1]⟩)
    · exact .inr (.inr ⟨by omega, by rw [if_neg h0, if_neg h1]⟩)

set_option maxHeartbeats 4000000 in
theorem counts_any (ss : List ByteArray) (a : Option Addr) (n c : Nat) (x : Int) (w : World) (hE : Elems w w.heap.size a n (ss.map .string)) (hx : -9223372036854775808 ≤ x ∧ x ≤ 9223372036854775807) :
    Calls Try.prog 4 #[.slice a n c, .int .i64 x] w fun e w' => e = .returned (.bool true) ∧ Below w.heap.size w w' := by
  have hlen : ss.length = n := by have := hE.1; rw [List.length_map] at this; exact this
  have hnm := hE.2.1
  unfold maxLen at hnm
  by_cases hbig : (60 : Int) < (n : Int)
  · clear hE hlen
    go_enter Try.func4, Try.ntmps4
    go_wp2_with fail
    refine (anchor_any _).mono ?_
    rintro e w1 ⟨rfl, hb1⟩
    go_wp2
    go_ret
    exact ⟨rfl, hb1⟩
  by_cases hb1 : x < 1
  · clear hE hlen
    go_enter Try.func4, Try.ntmps4
    go_wp2_with fail
    refine (anchor_any _).mono ?_
    rintro e w1 ⟨rfl, hb1⟩
    go_wp2
    go_ret
    exact ⟨rfl, hb1⟩
  by_cases hb5 : 5 < x
  · clear hE hlen
    go_enter Try.func4, Try.ntmps4
    go_wp2_with fail
    refine (anchor_any _).mono ?_
    rintro e w1 ⟨rfl, hb1⟩
    go_wp2
    go_ret
    exact ⟨rfl, hb1⟩
  obtain ⟨b, rfl⟩ : ∃ b : Nat, x = b := ⟨x.toNat, by omega⟩
  have hbb : 1 ≤ b ∧ b ≤ 5 := by omega
  have hn60 : n ≤ 60 := by omega
  obtain ⟨b1, o1, R1, hbl, C1⟩ := hE.open (P := Try.prog) 22 9 Try.underlying22 (by kernel_rfl)
  have R1 := Lib.hid R1
  have C1 := Lib.hid C1
  have HLEN := Lib.hid hlen
  clear hE hlen hbig hnm hb1 hb5 hx
  go_enter Try.func4, Try.ntmps4
  go_wp2_with fail
  refine (anchor_any _).mono ?_
  rintro e w1 ⟨rfl, hba⟩
  have HBA := Lib.hid hba
  clear hba
  go_wp2_with fail
  go_loop [5, 26] (fun s i => ∃ k : Nat, k ≤ n ∧ i = .int .i64 k ∧ s = .string (S (wordsT b 0 (ss.take k))) ∧ ∀ y ∈ ss.take k, WordOk y ∧ y.size ≤ 100) (fun _ i => n - (intOf i).toNat)
  case atStart => exact ⟨0, Nat.zero_le _, rfl, rfl, by simp⟩
  case round =>
    obtain ⟨k, hk, rfl, rfl, hok⟩ := hrel
    have hbs := HBA.out.size
    have hts : (wordsT b 0 (ss.take k)).length ≤ 6300 := Nat.le_trans (wordsT_len b hbb.2 0 _ (fun y hy => (hok y hy).2)) (by rw [List.length_take]; omega)
    have HOK := Lib.hid hok
    obtain ⟨T0, hT0⟩ : ∃ T0, T0 = wordsT b 0 (ss.take k) := ⟨_, rfl⟩
    rw [← hT0] at hts ⊢
    have HT0 := Lib.hid hT0
    clear hok hT0
    by_cases hlt : k < n
    · obtain ⟨y, hy⟩ : ∃ y, ss[k]? = some y := ⟨_, List.getElem?_eq_getElem (by rw [HLEN.out]; exact hlt)⟩
      have j1 := fun w' => R1.out k c w' hlt
      have hb1' : b1 < w1.heap.size := by omega
      have d1 : w1.cell? ⟨b1, o1 + k, none⟩ = some (.string y) := by rw [HBA.out.cell (p := ⟨b1, o1 + k, none⟩) (by simp; omega), C1.out k hlt, List.getElem?_map, hy]; rfl
      have HT := Lib.hid (wordsT_take b hy)
      have HTK : Hid (ss.take (k + 1) = ss.take k ++ [y]) := Lib.hid (by
        obtain ⟨hk', e⟩ := List.getElem?_eq_some_iff.1 hy
        rw [List.take_succ_eq_append_getElem hk', e])
      have HBC := Lib.hid (blank_cases k)
      clear hy
      cases e0 : y.toList.isEmpty with
      | true =>
        go_wp2
        go_ret
        exact ⟨rfl, HBA.out⟩
      | false =>
        by_cases h100 : (100 : Int) < (y.size : Int)
        · go_wp2
          go_ret
          exact ⟨rfl, HBA.out⟩
        · have hyz : y.size ≤ 100 := by omega
          have hne : L y ≠ [] := by rw [isEmpty_L] at e0; simpa using e0
          have HNE := Lib.hid hne
          clear hne
          go_wp2_with fail
          go_loop [40] (fun i => ∃ j : Nat, j ≤ y.size ∧ i = .int .i64 j ∧ ∀ d ∈ (L y).take j, hasB ifs3 d = false) (fun i => y.size - (intOf i).toNat)
          case atStart => exact ⟨0, Nat.zero_le _, rfl, by simp⟩
          case round =>
            obtain ⟨j, hj, rfl, hno⟩ := hrel
            have HNO := Lib.hid hno
            clear hno
            by_cases hjt : j < y.size
            · have hidx := run_idx (P := Try.prog) Try.underlying9 y (k := .i64) (j : Int) j rfl hjt
              have htk := take_snoc (show j < (L y).length from hjt)
              obtain ⟨d, hd⟩ : ∃ d, d = (L y).getD j 0 := ⟨_, rfl⟩
              rw [← hd] at hidx htk
              have HTJ := Lib.hid htk
              have e1 : (((d.toNat : Nat) : Int) == 32) = (d == 32) := beq_byte d 32
              have e2 : (((d.toNat : Nat) : Int) == 9) = (d == 9) := beq_byte d 9
              have e3 : (((d.toNat : Nat) : Int) == 10) = (d == 10) := beq_byte d 10
              have hh := hasB3 d
              obtain ⟨q1, hq1⟩ : ∃ b, (d == 32) = b := ⟨_, rfl⟩
              obtain ⟨q2, hq2⟩ : ∃ b, (d == 9) = b := ⟨_, rfl⟩
              obtain ⟨q3, hq3⟩ : ∃ b, (d == 10) = b := ⟨_, rfl⟩
              rw [hq1, hq2, hq3] at hh
              rw [hq1] at e1
              rw [hq2] at e2
              rw [hq3] at e3
              have HH := Lib.hid hh
              clear htk hd hh hq1 hq2 hq3
              cases q1 with
              | true =>
                go_wp2
                go_ret
                exact ⟨rfl, HBA.out⟩
              | false =>
                cases q2 with
                | true =>
                  go_wp2
                  go_ret
                  exact ⟨rfl, HBA.out⟩
                | false =>
                  cases q3 with
                  | true =>
                    go_wp2
                    go_ret
                    exact ⟨rfl, HBA.out⟩
                  | false =>
                    go_wp2
                    go_round
                    case rel => exact ⟨j + 1, by omega, by go_num, by
                      rw [HTJ.out]
                      intro z hz
                      rcases List.mem_append.1 hz with hz | hz
                      · exact HNO.out z hz
                      · simp at hz; subst hz; exact HH.out⟩
                    case measure => simp [intOf]; omega
            · have HWO : Hid (WordOk y) := Lib.hid ⟨HNE.out, by have := HNO.out; rw [List.take_of_length_le (by rw [L_size]; omega)] at this; exact this⟩
              go_wp2_with fail
              go_loop [5, 61] (fun s i => ∃ m : Nat, m ≤ b ∧ i = .int .i64 m ∧ s = .string (S (T0 ++ List.replicate m (blankOf k)))) (fun _ i => b - (intOf i).toNat)
              case atStart => exact ⟨0, Nat.zero_le _, rfl, by simp⟩
              case round =>
                obtain ⟨m, hm, rfl, rfl⟩ := hrel
                by_cases hmt : m < b
                · have hsz : (S (T0 ++ List.replicate m (blankOf k))).size ≤ 6310 := by rw [S_size, List.length_append, List.length_replicate]; omega
                  have HREP : Hid (∀ d : UInt8, blankOf k = d → S (T0 ++ List.replicate m (blankOf k)) ++ ⟨#[d]⟩ = S (T0 ++ List.replicate (m + 1) (blankOf k))) := Lib.hid fun d hd => by
                    rw [S_snoc, List.append_assoc, List.replicate_succ', hd]
                  obtain ⟨U, hU⟩ : ∃ U, U = S (T0 ++ List.replicate m (blankOf k)) := ⟨_, rfl⟩
                  rw [← hU] at hsz HREP ⊢
                  clear hU
                  rcases HBC.out with ⟨hm3, hbk⟩ | ⟨hm3, hbk⟩ | ⟨hm3, hbk⟩
                  all_goals
                    have HBK := Lib.hid hbk
                    clear hbk
                    go_wp2
                    go_round
                    case rel => exact ⟨m + 1, by omega, by go_num, congrArg Value.string (HREP.out _ HBK.out)⟩
                    case measure => simp [intOf]; omega
                · have hmb : m = b := by omega
                  have hsz : (S (T0 ++ List.replicate m (blankOf k))).size ≤ 6310 := by rw [S_size, List.length_append, List.length_replicate]; omega
                  have HNX : Hid (S (T0 ++ List.replicate m (blankOf k)) ++ y = S (wordsT b 0 (ss.take (k + 1)))) := Lib.hid (by
                    have h := S_append (T0 ++ List.replicate b (blankOf k)) (L y)
                    rw [S_L] at h
                    rw [HT.out, ← HT0.out, hmb, ← List.append_assoc]
                    exact h)
                  have HOK2 : Hid (∀ z ∈ ss.take (k + 1), WordOk z ∧ z.size ≤ 100) := Lib.hid (by
                    rw [HTK.out]
                    intro z hz
                    rcases List.mem_append.1 hz with hz | hz
                    · exact HOK.out z hz
                    · simp at hz; subst hz; exact ⟨HWO.out, hyz⟩)
                  obtain ⟨U, hU⟩ : ∃ U, U = S (T0 ++ List.replicate m (blankOf k)) := ⟨_, rfl⟩
                  rw [← hU] at hsz HNX ⊢
                  clear hU hmb
                  go_wp2
                  go_round
                  case rel => exact ⟨k + 1, by omega, by go_num, congrArg Value.string HNX.out, HOK2.out⟩
                  case measure => simp [intOf]; omega
    · obtain rfl : k = n := by omega
      have htk : ss.take k = ss := List.take_of_length_le (by rw [HLEN.out]; omega)
      rw [htk] at HT0 HOK
      have hu : (S T0).size ≤ 6300 := by rw [S_size]; exact hts
      have C : Hid (∀ (W : World) (g : Nat), g = W.heap.size → Calls Try.prog 7 #[.slice (some ⟨g, 0, none⟩) 1 1, .string ⟨#[32, 9, 10]⟩] (W.alloc (.cells #[.string (S T0 ++ ⟨#[32]⟩), .bool false, .bool true, .bool false] 26)) (SplitPost (ss.map (one · false)) (W.alloc (.cells #[.string (S T0 ++ ⟨#[32]⟩), .bool false, .bool true, .bool false] 26)))) := Lib.hid fun W g hg => by
        rw [S_snoc, HT0.out, ← words_split b (by omega) ss (fun y hy => (HOK.out y hy).1)]
        exact Split_any ⟨#[32, 9, 10]⟩ [⟨S (wordsT b 0 ss ++ [32]), false, true, false⟩] _ _ (sl_made_at W _ _ 1 4 rfl (by unfold maxLen; omega) hg) (by decide) (FitL.small (by simp [S_size]; rw [← HT0.out]; omega) (by simp))
      have HOKS := Lib.hid (fun y hy => (HOK.out y hy).2)
      obtain ⟨U, hU⟩ : ∃ U, U = S T0 := ⟨_, rfl⟩
      rw [← hU] at hu C ⊢
      clear htk hts HT0 HOK hU
      go_wp2_with fail
      refine (C.out _ _ rfl).mono ?_
      rintro e w3 ⟨hb3, v, rfl, ho⟩
      have HB3 := Lib.hid ((HBA.out.alloc hbs _).trans (hb3.mono (by simp; omega)))
      obtain ⟨ga, gc, rfl⟩ := ho.shape
      rw [List.length_map, HLEN.out]
      rw [List.length_map, HLEN.out] at ho
      have HO := Lib.hid ho
      clear hb3 ho C
      go_wp2_with fail
      go_loopw [86] (fun i wr => ∃ j : Nat, j ≤ k ∧ i = .int .i64 j ∧ Below w3.heap.size w3 wr) (fun i _ => k - (intOf i).toNat)
      case atStart => exact ⟨0, Nat.zero_le _, rfl, Below.refl _ _⟩
      case round =>
        obtain ⟨j, hj, rfl, hb4⟩ := hrel
        obtain ⟨wo2, rfl⟩ : ∃ wo2 : World, wo2 = wr := ⟨_, rfl⟩
        have hb3s := HB3.out.size
        by_cases hlt : j < k
        · obtain ⟨x, hx⟩ : ∃ x, ss[j]? = some x := ⟨_, List.getElem?_eq_getElem (by rw [HLEN.out]; exact hlt)⟩
          have j1 := fun w' => R1.out j c w' hlt
          have hb1' : b1 < w3.heap.size := by omega
          have d1 : wo2.cell? ⟨b1, o1 + j, none⟩ = some (.string x) := by rw [hb4.cell (p := ⟨b1, o1 + j, none⟩) hb1', HB3.out.cell (p := ⟨b1, o1 + j, none⟩) (by simp; omega), C1.out j hlt, List.getElem?_map, hx]; rfl
          obtain ⟨b2, o2, y, j2, hb2, e2, r2⟩ := (HO.out.below hb4).field (k := j) (f := one x false) (by rw [List.getElem?_map, hx]; rfl) (j : Int) rfl
          have hxs : x.size ≤ 140737488355328 := by have := HOKS.out x (List.mem_of_getElem? hx); omega
          have TX := text_at r2 x (by simp [textL, one, S_L]) (by simpa [textL, one, L_size] using hxs)
          have CF : Hid (∀ d os, Calls Try.prog 8 #[y] (Sort.grow (redrawn wo2 d) os) fun e w'' => e = .returned (.string x) ∧ ∃ q : Regrown, w'' = Sort.grow (redrawn wo2 q.d) q.os) := Lib.hid fun d os =>
            Calls.regrown_of (TX.out _ (below_regrown wo2 d os))
          have hc1 : ∀ d os, (Sort.grow (redrawn wo2 d) os).cell? ⟨b1, o1 + j, none⟩ = _ := fun d os => cell_regrown d1 d os
          have hc2 : ∀ d os, (Sort.grow (redrawn wo2 d) os).cell? ⟨b2, o2, none⟩ = _ := fun d os => cell_regrown e2 d os
          have HB4 := Lib.hid hb4
          clear r2 hx hb4 d1 e2
          go_wp2_with fail
          refine wp_region_quiet_below (by kernel_rfl) (by kernel_rfl) ?_
          repeat (go_big_quiet_step (with_reducible first | exact CF.out _ _))
          refine wpQuiet_nil ?_
          intro _ hw'
          obtain ⟨⟨dq, osq⟩, hw''⟩ := hw'
          subst hw''
          clear hc1 hc2
          go_wp2
          go_roundw
          case rel => exact ⟨j + 1, by omega, by go_num, HB4.out.trans ((below_regrown wo2 dq osq).mono HB4.out.size)⟩
          case measure => simp [intOf]; omega
        · go_wp2
          go_ret
          exact ⟨rfl, HB3.out.trans (hb4.mono HB3.out.size)⟩
end Go.Proofs.Ytlehofcgkmhgaaa
