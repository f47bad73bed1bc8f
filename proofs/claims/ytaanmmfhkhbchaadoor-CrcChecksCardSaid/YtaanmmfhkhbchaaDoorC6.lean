/-
  The walk of the statement CrcChecks.
-/
import Derived.Test.YtaanmmfhkhbchaaDoorC5
namespace Go.Proofs.YtaanmmfhkhbchaaDoor
open Go.Shelf Go.RowKit Go.Sort Go.Lib

theorem add_append (v : BitVec 32) (a b : List UInt8) : addS v (a ++ b) = addS (addS v a) b := by rw [addS, addS, addS, List.foldl_append]

theorem len_any (p : Nat) (v : BitVec 32) (n : Nat) (w : World) (hs : SumAt w p v n) :
    Calls Tryd.prog 10 #[.pointer (some ⟨p, 0, none⟩)] w fun e w' => e = .returned (.int .i64 (n : Nat)) ∧ w' = w := by
  obtain ⟨h1, h2, h3, h4⟩ := hs
  go_enter Tryd.func10, Tryd.ntmps10
  go_wp2_with fail
  go_ret
  exact ⟨rfl, rfl⟩

theorem SumAt.below {w w' : World} {p B : Nat} {v : BitVec 32} {n : Nat} (h : SumAt w p v n) (hb : Below B w w') (hp : p < B) : SumAt w' p v n := by
  obtain ⟨h1, h2, h3, h4⟩ := h
  exact ⟨by rw [hb.cell (p := ⟨p, 0, none⟩) hp]; exact h1, by rw [hb.cell (p := ⟨p, 1, none⟩) hp]; exact h2, by rw [hb.frozen (p := ⟨p, 0, none⟩) hp]; exact h3, by rw [hb.frozen (p := ⟨p, 1, none⟩) hp]; exact h4⟩

set_option maxRecDepth 100000 in
set_option maxHeartbeats 600000 in
theorem checks_any (a : Option Addr) (n cap : Nat) (ss : List ByteArray) (w : World) (hE : Elems w w.heap.size a n (ss.map .string)) (hss : ∀ s ∈ ss, s.size ≤ maxLen) (htab : Tab w) :
    Calls Tryd.prog 4 #[.slice a n cap] w fun e w' => e = .returned (.bool true) ∧ Below w.heap.size w w' := by
  have hg : 0 < w.heap.size := htab.2
  have HTAB := Lib.hid htab
  have CA := Lib.hid (anchor_any w htab)
  have hnm := hE.2.1
  unfold maxLen at hnm
  clear htab
  by_cases hn : n ≤ 60
  · have hl : ss.length = n := by simpa using hE.1
    obtain ⟨b1, o1, r1, hlt1, c1⟩ := hE.open (P := Tryd.prog) 28 9 Tryd.underlying28 (by kernel_rfl)
    have HL := Lib.hid hl
    have R1 := Lib.hid r1
    have CC1 := Lib.hid c1
    have HLT1 := Lib.hid hlt1
    have HSS := Lib.hid hss
    clear hl r1 c1 hlt1 hE hss
    go_enter Tryd.func4, Tryd.ntmps4
    go_wp2_with fail
    refine CA.out.mono ?_
    rintro e w1 ⟨rfl, hb1⟩
    have hb1s := hb1.size
    have hs0 : SumAt (w1.alloc (.cells #[.int .u32 0, .int .i64 0] 30)) w1.heap.size 0#32 0 := ⟨by simp, by simp, by simp, by simp⟩
    have HS0 := Lib.hid hs0
    have HB0 := Lib.hid (Below.alloc hb1 hb1s (.cells #[.int .u32 0, .int .i64 0] 30))
    clear hs0 hb1
    go_wp2_with fail
    go_loopw [4, 15] (fun o i wr => ∃ (k : Nat) (t : ByteArray), k ≤ n ∧ i = .int .i64 k ∧ o = .string t ∧ t.size ≤ 500 * k ∧ SumAt wr w1.heap.size (addS 0#32 (L t)) t.size ∧ w1.heap.size < wr.heap.size ∧ Below w.heap.size w wr) (fun _ i _ => n - (RowKit.intOf i).toNat)
    case atStart => exact ⟨0, ⟨#[]⟩, Nat.zero_le _, rfl, rfl, Nat.le_refl _, HS0.out, by simp, HB0.out⟩
    case round =>
      obtain ⟨k, t, hk, rfl, rfl, hts, hsum, hp, hbw⟩ := hrel
      have hbs := hbw.size
      by_cases hlt : k < n
      · have j1 := fun w' => R1.out k cap w' hlt
        obtain ⟨x, hx⟩ : ∃ x, ss[k]? = some x := ⟨_, List.getElem?_eq_getElem (by rw [HL.out]; exact hlt)⟩
        have d1 : wr.cell? ⟨b1, o1 + k, none⟩ = some (.string x) := by
          rw [hbw.cell (p := ⟨b1, o1 + k, none⟩) (show b1 < w.heap.size by have := HLT1.out; omega), CC1.out k hlt, List.getElem?_map, hx]; rfl
        have hxm := HSS.out x (List.mem_of_getElem? hx)
        unfold maxLen at hxm
        by_cases hx5 : x.size ≤ 500
        · have hB := below_bytesWorld wr 5 x
          have hBM := BytesAt.made wr 5 x
          have hs1 := hsum.below hB hp
          have C := Lib.hid (fun cap => add_any w1.heap.size wr.heap.size cap (addS 0#32 (L t)) t.size (L x) (Lib.bytesWorld wr 5 x) hs1 hBM (by omega) (by rw [L_size]; omega))
          have HBW := Lib.hid (hbw.trans (hB.mono hbs))
          have hz := Lib.bytesWorld_size wr 5 x
          have HZ := Lib.hid hz
          have HX : Hid (addS (addS 0#32 (L t)) (L x) = addS 0#32 (L (t ++ x)) ∧ t.size + (L x).length = (t ++ x).size) := Lib.hid ⟨by rw [L_append, add_append], by rw [ByteArray.size_append]; rfl⟩
          clear hx hB hBM hs1 hbw hsum hz
          go_wp2_with fail
          refine (C.out _).mono ?_
          rintro e w2 ⟨rfl, hs2, hbut⟩
          rw [HX.out.1, HX.out.2] at hs2
          have HS2 := Lib.hid hs2
          have HBUT := Lib.hid hbut
          clear hs2 hbut
          go_wp2_with fail
          go_roundw
          case rel => exact ⟨k + 1, t ++ x, by omega, by go_num, rfl, by rw [ByteArray.size_append]; omega, HS2.out, by rw [HBUT.out.1, HZ.out]; omega, HBUT.out.2.1 _ _ (by omega) HBW.out⟩
          case measure => simp [RowKit.intOf]; omega
        · clear hx
          go_wp2_with fail
          go_ret
          exact ⟨rfl, hbw⟩
      · obtain rfl : k = n := by omega
        have hB := below_bytesWorld wr 5 t
        have hBM := BytesAt.made wr 5 t
        have hbw2 := hbw.trans (hB.mono hbs)
        have hs1 := hsum.below hB hp
        have ht3 : t.size ≤ 30000 := by omega
        have C1 := Lib.hid (fun cap => refOf_any wr.heap.size cap (L t) (Lib.bytesWorld wr 5 t) hBM (by rw [L_size]; omega))
        have C2 := Lib.hid (value_any w1.heap.size _ t.size (Lib.bytesWorld wr 5 t) hs1 (by omega))
        have C3 := Lib.hid (fun k => len_any w1.heap.size _ t.size ((Lib.bytesWorld wr 5 t).drewN k) hs1)
        have C4 := Lib.hid (fun w => of_any t w (by omega))
        have C5 := Lib.hid (fun w ht => line_any t w (by omega) ht)
        obtain ⟨c, hc⟩ : ∃ c, c = (sumS (L t)).toNat := ⟨_, rfl⟩
        have hc32 : c < 4294967296 := by rw [hc]; exact (sumS (L t)).isLt
        have C6 := Lib.hid (fun w => refDigits_any c (by omega) w)
        have C7 := Lib.hid (fun w => refDigits_any t.size (by omega) w)
        have l1 := dec_len (u := c) (by omega)
        have l2 := dec_len (u := t.size) (by omega)
        rw [show (((~~~ addS (addS 0#32 (L t)) (lenBytes t.size)).toNat : Nat) : Int) = (c : Int) by rw [hc]; rfl] at C2
        rw [← hc] at C1 C4 C5
        obtain ⟨u, hu⟩ : ∃ u, u = S (decDigits c) := ⟨_, rfl⟩
        obtain ⟨r, hr⟩ : ∃ r, r = S (decDigits t.size) := ⟨_, rfl⟩
        rw [← hu] at C5 C6 l1
        rw [← hr] at C5 C7 l2
        have HBW := Lib.hid hbw2
        have hwr : IntKind.u64.wrap ((c : Nat) : Int) = (c : Int) := by rw [IntKind.wrap_u64]; omega
        clear hB hBM hbw hsum hs1 hc hu hr hbw2 hc32
        go_wp2_with fail
        refine (C1.out _).mono ?_
        rintro e w2 ⟨rfl, rfl⟩
        go_wp2_with fail
        refine C2.out.mono ?_
        rintro e w3 ⟨rfl, kk, rfl⟩
        go_wp2_with fail
        refine (C3.out kk).mono ?_
        rintro e w4 ⟨rfl, rfl⟩
        have hb3 := below_drewN HBW.out kk
        go_wp2_with fail
        refine (C4.out _).mono ?_
        rintro e w5 ⟨rfl, hb4⟩
        have hb5 := hb3.trans (hb4.mono hb3.size)
        clear hb3 hb4
        go_wp2_with fail
        refine (C5.out _ (HTAB.out.below hg hb5)).mono ?_
        rintro e w6 ⟨rfl, hb6⟩
        have hb7 := hb5.trans (hb6.mono hb5.size)
        clear hb5 hb6
        go_wp2_with fail
        refine (C6.out _).mono ?_
        rintro e w7 ⟨rfl, hb8⟩
        have hb9 := hb7.trans (hb8.mono hb7.size)
        clear hb7 hb8
        go_wp2_with fail
        refine (C7.out _).mono ?_
        rintro e w8 ⟨rfl, hb10⟩
        have hb11 := hb9.trans (hb10.mono hb9.size)
        clear hb9 hb10
        go_wp2_with fail
        go_ret
        exact ⟨ret_bool (by simp), hb11⟩
  · go_enter Tryd.func4, Tryd.ntmps4
    go_wp2_with fail
    refine CA.out.mono ?_
    rintro e w1 ⟨rfl, hb1⟩
    go_wp2_with fail
    go_ret
    exact ⟨rfl, hb1⟩
end Go.Proofs.YtaanmmfhkhbchaaDoor
