/-
  The walk of TagBursts.
-/
import Derived.Test.YtkeinpifbiiodaaW7
import Derived.Test.YtkeinpifbiiodaaBytes
namespace Go.Proofs.Ytkeinpifbiiodaa
open Go.RowKit

@[go_sem] theorem Try.toBytes (w : World) (s : ByteArray) : (convert 9 37 (.string s)).run Try.prog w = .ok (.slice (some ⟨w.heap.size, 0, none⟩) s.size (grownCap w s.size 0 5)) (Lib.bytesWorld w 5 s) :=
  Lib.run_convert_string_bytes w _ _ _ s Try.underlying9 Try.underlying37 Try.underlying5

/-! ### plain -/
theorem take_same {l m : List UInt8} {i n : Nat} (h : ∀ j, i ≤ j → j < i + n → m[j]? = l[j]?) : (m.drop i).take n = (l.drop i).take n := by
  apply List.ext_getElem?
  intro j
  by_cases hj : j < n
  · rw [List.getElem?_take_of_lt hj, List.getElem?_take_of_lt hj, List.getElem?_drop, List.getElem?_drop]
    exact h _ (by omega) (by omega)
  · rw [List.getElem?_take_eq_none (by omega), List.getElem?_take_eq_none (by omega)]

/-- A tag whose halves stand in no text doesn't stand in it when it is changed within five bytes. -/
theorem tag_burst {l m : List UInt8} {k a b : Nat} (h1 : occ l (halfB k) = false) (h2 : occ l (halfE k) = false) (hl : m.length = l.length) (hab : b ≤ a + 4) (h : ∀ j, (j < a ∨ b < j) → m[j]? = l[j]?) : occ m (tagL k) = false := by
  refine occ_false fun i hi he => ?_
  have hlen : (tagL k).length = 22 := by simp [tagL, halfB, halfE, lets]
  have hlB : (halfB k).length = 7 := by simp [halfB, lets]
  have hlE : (halfE k).length = 7 := by simp [halfE, lets]
  rw [hlen] at hi he
  have eB : (m.drop i).take 7 = halfB k := by
    have : (m.drop i).take 7 = ((m.drop i).take 22).take 7 := by rw [List.take_take]; rfl
    rw [this, he, tagL, List.append_assoc, List.take_append_of_le_length (by omega), List.take_of_length_le (by omega)]
  have eE : (m.drop (i + 15)).take 7 = halfE k := by
    have : (m.drop (i + 15)).take 7 = (((m.drop i).take 22).drop 15).take 7 := by rw [List.drop_take, List.take_take, List.drop_drop]; rfl
    rw [this, he, tagL, List.drop_append_of_le_length (by simp [hlB]), List.drop_of_length_le (by simp [hlB]), List.nil_append, List.take_of_length_le (by omega)]
  by_cases hw : b < i ∨ i + 6 < a
  · have : occ l (halfB k) = true := (occ_iff _ _).2 ⟨i, by omega, by rw [hlB, ← eB]; exact (take_same fun j h3 h4 => h j (by omega)).symm⟩
    rw [h1] at this; cases this
  · have : occ l (halfE k) = true := (occ_iff _ _).2 ⟨i + 15, by omega, by rw [hlE, ← eE]; exact (take_same fun j h3 h4 => h j (by omega)).symm⟩
    rw [h2] at this; cases this

theorem first_one {s : ByteArray} (hs : s.size ≤ 2000) : ∃ k, IsFirst [s] 0 (some k) ∧ k ≤ 2000 := by
  obtain ⟨m, hm⟩ := first_exists [s] 0
  have hl : ([s].flatMap fun s => bad (L s)).length ≤ 2000 := by simpa [bad, L_size] using hs
  obtain ⟨k, _, hk2, hk3⟩ := not_all_in 2000 ([s].flatMap fun s => bad (L s)) 0 hl
  have hf := free_or_bad (show k < 11881376 by omega) hk3
  cases m with
  | none => have := hm k (by omega) (by omega); rw [hf] at this; cases this
  | some q =>
    obtain ⟨a1, a2, a3, a4⟩ := hm
    refine ⟨q, ⟨a1, a2, a3, a4⟩, ?_⟩
    rcases Nat.lt_or_ge k q with h | h
    · have := a4 k (by omega) h; rw [hf] at this; cases this
    · omega

/-! ### the walk -/
set_option maxRecDepth 100000 in
set_option maxHeartbeats 800000 in
theorem bursts_any (s : ByteArray) (at0 fl : Int) (w : World) (hs : s.size ≤ maxLen) (hv : Held w) (_hf1 : 0 ≤ fl) (_hf2 : fl ≤ 4294967295) :
    Calls Try.prog 5 #[.string s, .int .i64 at0, .int .u32 fl] w fun e w' => e = .returned (.bool true) ∧ Below w.heap.size w w' := by
  unfold maxLen at hs
  have HV := Lib.hid hv
  clear hv
  by_cases hc : s.size ≤ 2000 ∧ 0 ≤ at0 ∧ at0 ≤ 8 * s.size - 32
  · obtain ⟨h1, h2, h3⟩ := hc
    obtain ⟨q, rfl⟩ := Int.eq_ofNat_of_zero_le h2
    obtain ⟨k, hk, hk2⟩ := first_one h1
    have hk3 : k < 11881376 := by omega
    have hfr := hk.2.2.1
    simp only [freeB, List.all_cons, List.all_nil, Bool.and_true, Bool.not_eq_true', Bool.or_eq_false_iff] at hfr
    have HK := Lib.hid hk
    have HK3 := Lib.hid hk3
    have HF := Lib.hid hfr
    clear hk hk3 hfr
    go_enter Try.func5, Try.ntmps5
    go_wp2_with fail
    refine (anchor_any _).mono ?_
    rintro e w1 ⟨rfl, hb1⟩
    have hv1 := HV.out.below HV.out.2 hb1
    have hE1 : Elems (w1.alloc (.cells #[.string s] 9)) (w1.alloc (.cells #[.string s] 9)).heap.size (some ⟨w1.heap.size, 0, none⟩) 1 ([s].map Value.string) :=
      elems_one w1 (.string s) 9
    have hba : Below w1.heap.size w1 (w1.alloc (.cells #[.string s] 9)) := (Below.refl _ _).alloc (Nat.le_refl _) _
    have hva := hv1.below hv1.2 hba
    have HVA := Lib.hid hva
    have HE1 := Lib.hid hE1
    clear hv1 hE1 hva
    go_wp2_with fail
    refine (first_any 0 _ _ _ [s] _ HE1.out (by omega) (by simpa using (by omega : s.size ≤ 100000)) HVA.out.1 HVA.out.2 (some k) HK.out).mono ?_
    simp only [resN, resE, Option.getD]
    rintro e w2 ⟨rfl, hb2⟩
    have hb3 := hb1.trans ((hba.trans (hb2.mono hba.size)).mono hb1.size)
    clear hba hb1 hb2
    have hb3s := hb3.size
    have hz := Lib.bytesWorld_size w2 5 s
    have hbw := hb3.trans ((below_bytesWorld w2 5 s).mono hb3s)
    have hbm := BytesAt.made w2 5 s
    have HBW := Lib.hid hbw
    have HBM := Lib.hid hbm
    clear hbw hbm
    go_wp2_with fail
    go_loopw [36] (fun i wr => ∃ (j : Nat) (bl : List UInt8), j ≤ 32 ∧ i = .int .i64 j ∧ bl.length = s.size ∧ (∀ i, (i < q / 8 ∨ (q + 31) / 8 < i) → bl[i]? = (L s)[i]?) ∧ BytesAt wr w2.heap.size bl ∧ Below w.heap.size w wr ∧ w2.heap.size < wr.heap.size) (fun i _ => 32 - (intOf i).toNat)
    case atStart => exact ⟨0, L s, by omega, rfl, rfl, fun _ _ => rfl, HBM.out, HBW.out, by rw [hz]; omega⟩
    case round =>
      obtain ⟨j, bl, hj, rfl, hbl, hsame, hba, hbr, hsz⟩ := hrel
      have HBL := Lib.hid hbl
      have HSA := Lib.hid hsame
      have HBA := Lib.hid hba
      clear hbl hsame hba hz
      by_cases hlt : j < 32
      · have hidx : (q + j) / 8 < s.size := by omega
        have hcell := (HBA.out ((q + j) / 8) (by rw [HBL.out]; exact hidx)).1
        have hfz := (HBA.out ((q + j) / 8) (by rw [HBL.out]; exact hidx)).2
        go_wp2_with fail
        · go_roundw
          case rel =>
            refine ⟨j + 1, bl.set ((q + j) / 8) ((bl.getD ((q + j) / 8) 0) ^^^ bitAt (q + j)), by omega, by go_num, by rw [List.length_set]; exact HBL.out, fun i hi => ?_, ?_, hbr.setCell (by omega) _, by simpa using hsz⟩
            · rw [List.getElem?_set_ne (by omega)]; exact HSA.out i hi
            · exact HBA.out.set (by rw [HBL.out]; exact hidx) (bits_xor_u8 _ _ (by simp) (bitAt_int _))
          case measure => simp [intOf]; omega
        · go_roundw
          case rel => exact ⟨j + 1, bl, by omega, by go_num, HBL.out, HSA.out, HBA.out, hbr, hsz⟩
          case measure => simp [intOf]; omega
      · have ht1 := tag_burst HF.out.1 HF.out.2 (by rw [HBL.out]; rfl) (show (q + 31) / 8 ≤ q / 8 + 4 by omega) HSA.out
        have ht2 : occ (L s) (tagL k) = false := tag_burst HF.out.1 HF.out.2 rfl (show 0 ≤ 0 + 4 by omega) fun _ _ => rfl
        have hcb : ∀ d os, cellBytes (Sort.grow (redrawn wr d) os) w2.heap.size 0 s.size = some bl := fun d os => (HBA.out.below (below_regrown wr d os) hsz).bytes HBL.out
        have sz1 : (S (tagL k)).size ≤ 100000 := by simp [S_size, tagL, halfB, halfE, lets]
        have cO := fun d os => Calls.regrown_of (w := wr) (d := d) (os := os) (of_any k (Sort.grow (redrawn wr d) os) HK3.out)
        have c1 := fun d os => in_grow ⟨bl.toArray⟩ (S (tagL k)) false wr d os (by show bl.length ≤ _; rw [HBL.out]; omega) sz1 ht1
        have c2 := fun d os => in_grow s (S (tagL k)) false wr d os (by omega) sz1 ht2
        have CO := Lib.hid cO
        have C1 := Lib.hid c1
        have C2 := Lib.hid c2
        clear ht1 ht2 cO c1 c2
        go_wp2
        refine wp_region_quiet_below (by kernel_rfl) (by kernel_rfl) ?_
        repeat (go_big_quiet_step (with_reducible first | exact CO.out _ _ | exact C1.out _ _ | exact C2.out _ _))
        refine wpQuiet_nil ?_
        intro _ hw'
        obtain ⟨⟨dq, osq⟩, hw''⟩ := hw'
        subst hw''
        have hbq := hbr.trans ((below_regrown wr dq osq).mono hbr.size)
        clear hcb
        go_wp2
        go_ret
        exact ⟨rfl, hbq⟩
  · have hne : s.size ≤ 2000 → at0 < 0 ∨ at0 > 8 * s.size - 32 := by omega
    by_cases h1 : s.size ≤ 2000
    · by_cases h2 : at0 < 0
      · have t1 : decide ((s.size : Int) > 2000) = false := by simp; omega
        have t2 : decide (at0 < 0) = true := by simpa using h2
        clear hc hne
        go_enter Try.func5, Try.ntmps5
        go_wp2_with fail
        refine (anchor_any _).mono ?_
        rintro e w1 ⟨rfl, hb1⟩
        go_wp2_with fail
        go_ret
        exact ⟨rfl, hb1⟩
      · have t1 : decide ((s.size : Int) > 2000) = false := by simp; omega
        have t2 : decide (at0 < 0) = false := by simpa using h2
        have t3 : at0 > 8 * s.size - 32 := by omega
        clear hc hne
        go_enter Try.func5, Try.ntmps5
        go_wp2_with fail
        refine (anchor_any _).mono ?_
        rintro e w1 ⟨rfl, hb1⟩
        go_wp2_with fail
        go_ret
        exact ⟨rfl, hb1⟩
    · have t1 : decide ((s.size : Int) > 2000) = true := by simp; omega
      clear hc hne
      go_enter Try.func5, Try.ntmps5
      go_wp2_with fail
      refine (anchor_any _).mono ?_
      rintro e w1 ⟨rfl, hb1⟩
      go_wp2_with fail
      go_ret
      exact ⟨rfl, hb1⟩
end Go.Proofs.Ytkeinpifbiiodaa
