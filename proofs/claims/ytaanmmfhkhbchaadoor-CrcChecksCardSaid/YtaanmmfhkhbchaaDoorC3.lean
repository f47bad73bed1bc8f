/-
  The walks of the check of a text, of FormatUint at base 10, of the tool's line, and of the anchor.
-/
import Derived.Test.YtaanmmfhkhbchaaDoorC2
import Derived.Test.YtaanmmfhkhbchaaDoorShelf
import Derived.Lib.AppendIntMem
import Derived.Lib.QuietBelow
import Derived.Lib.ItoaLen
namespace Go.Proofs.YtaanmmfhkhbchaaDoor
open Go.Shelf Go.RowKit Go.Sort Go.Lib

theorem of_any (s : ByteArray) (w : World) (hs : s.size ≤ 100000) :
    Calls Tryd.prog 6 #[.string s] w fun e w' => e = .returned (.int .u32 (((sumS (L s)).toNat : Nat) : Int)) ∧ Below w.heap.size w w' := by
  obtain ⟨w0, hw0⟩ : ∃ w0, w0 = w.alloc (.cells #[.int .u32 0, .int .i64 0] 30) := ⟨_, rfl⟩
  have hb0 : Below w.heap.size w w0 := by rw [hw0]; exact Below.alloc (Below.refl _ _) (Nat.le_refl _) _
  have hz0 : w0.heap.size = w.heap.size + 1 := by rw [hw0]; simp
  have hs0 : SumAt w0 w.heap.size 0#32 0 := by rw [hw0]; exact ⟨by simp, by simp, by simp, by simp⟩
  have hB := below_bytesWorld w0 5 s
  have hBM := BytesAt.made w0 5 s
  have hs1 : SumAt (Lib.bytesWorld w0 5 s) w.heap.size 0#32 0 := by
    obtain ⟨h1, h2, h3, h4⟩ := hs0
    exact ⟨by rw [hB.cell (p := ⟨w.heap.size, 0, none⟩) (show w.heap.size < w0.heap.size by omega)]; exact h1, by rw [hB.cell (p := ⟨w.heap.size, 1, none⟩) (show w.heap.size < w0.heap.size by omega)]; exact h2,
      by rw [hB.frozen (p := ⟨w.heap.size, 0, none⟩) (show w.heap.size < w0.heap.size by omega)]; exact h3, by rw [hB.frozen (p := ⟨w.heap.size, 1, none⟩) (show w.heap.size < w0.heap.size by omega)]; exact h4⟩
  have C1 := Lib.hid (fun cap => add_any w.heap.size w0.heap.size cap 0#32 0 (L s) (Lib.bytesWorld w0 5 s) hs1 hBM (by omega) (by rw [L_size]; omega))
  have hbw : Below w.heap.size w (Lib.bytesWorld w0 5 s) := hb0.trans (hB.mono (by omega))
  have HBW := Lib.hid hbw
  obtain ⟨r, hr⟩ : ∃ r, r = ((sumS (L s)).toNat : Int) := ⟨_, rfl⟩
  rw [← hr]
  have HR := Lib.hid hr
  have HW0 := Lib.hid hw0
  clear hb0 hs0 hB hBM hs1 hbw hr hw0
  go_enter Tryd.func6, Tryd.ntmps6
  go_wp2_with fail
  rw [← HW0.out, ← hz0]
  refine (C1.out _).mono ?_
  rintro e w1 ⟨rfl, hs2, hbut⟩
  have hb1 := hbut.2.1 w.heap.size w (Nat.le_refl _) HBW.out
  rw [Nat.zero_add, L_size] at hs2
  have C2 := Lib.hid (value_any w.heap.size _ s.size w1 hs2 (by omega))
  rw [show (((~~~ addS (addS 0#32 (L s)) (lenBytes s.size)).toNat : Nat) : Int) = r by rw [HR.out]; rfl] at C2
  clear hs2 hbut
  go_wp2_with fail
  refine C2.out.mono ?_
  rintro e w2 ⟨rfl, k, rfl⟩
  go_wp2_with fail
  go_ret
  exact ⟨rfl, below_drewN hb1 k⟩

/-- The table of the powers of ten lies as it was laid. -/
def Tab (w : World) : Prop := TabIs Tryd.prog w "internal/strconv.uint64pow10" .u64 pow10Tab ∧ 0 < w.heap.size
theorem Tab.below {w w' : World} (h : Tab w) {B : Nat} (hB : 0 < B) (hb : Below B w w') : Tab w' := by
  obtain ⟨h1, h2⟩ := h
  have hg : Tryd.prog.globalNamed "internal/strconv.uint64pow10" = some 0 := by kernel_rfl
  refine ⟨?_, Nat.lt_of_lt_of_le h2 hb.size⟩
  unfold TabIs World.var? at h1 ⊢
  rw [hg] at h1 ⊢
  simp only [Option.bind_some] at h1 ⊢
  rw [hb.block _ hB]
  exact h1

theorem holds_zero0 (w : World) (T : TypeId) (nd : Nat) (hs : nd ≤ 24) : Holds (fun (b : UInt8) => Value.int .u8 (b.toNat : Int)) (w.alloc (.cells zeros24 T)) w.heap.size 0 (Array.replicate nd (0 : UInt8)) := fun j hj => by
  have hj' : j < nd := by simpa using hj
  refine ⟨?_, World.frozen?_alloc_new _ _ _ _⟩
  rw [World.cell?_alloc_new, zeros24_at _ (by omega), getElem!_pos _ j hj]
  simp

set_option maxHeartbeats 1600000 in
set_option maxRecDepth 100000 in
theorem formatUint_in (u : Nat) (hu64 : u < 18446744073709551616) (w : World) (htab : Tab w) :
    Calls Tryd.prog 18 #[.int .u64 u, .int .i64 10] w fun e w' => e = .returned (.string (S (decDigits u))) ∧ Below w.heap.size w w' := by
  by_cases hs : u < 100
  · go_enter Tryd.func18, Tryd.ntmps18
    go_wp2_with fail
    refine (Tryd.internal_strconv_small u hs _).mono ?_
    rintro e w' ⟨rfl, rfl⟩
    go_wp2_with fail
    go_ret
    exact ⟨rfl, Below.refl _ _⟩
  · have hu1 : 1 ≤ u := by omega
    have hnd20 : nDigits u ≤ 20 := nDigits_le20 u hu64
    have hal : Tryd.prog.arrayLen 44 = 24 := by kernel_rfl
    have hel : Tryd.prog.elem 44 = 5 := by kernel_rfl
    have hsl : ∀ W, (Instr.sliceAt 44 (.pointer (some ⟨w.heap.size, 0, none⟩)) none (some (.int .i64 (nDigits u : Int))) none).run Tryd.prog W = .ok (.slice (some ⟨w.heap.size, 0, none⟩) (nDigits u) 24) W := fun W => by
      rw [run_sliceAt_array_h W 44 ⟨w.heap.size, 0, none⟩ (by kernel_rfl) .i64 (nDigits u : Int) (by omega) (by rw [hal]; omega)]
      rw [hal]; rfl
    have hH0 := holds_zero0 w 44 (nDigits u) (by omega)
    have hfmt := Tryd.internal_strconv_formatBase10 w.heap.size 0 24 u (Array.replicate (nDigits u) 0) (w.alloc (.cells zeros24 44)) hH0 (by rw [Array.size_replicate]; exact lt_pow_nDigits u) hu64 (by rw [Array.size_replicate]; omega)
    rw [Array.size_replicate] at hfmt
    have HH0 := Lib.hid hH0
    have HF := Lib.hid hfmt
    have C := Lib.hid (Tryd.internal_strconv_numDigits u hu1 hu64 (w.alloc (.cells zeros24 44)) (tabIs_alloc htab.1 _))
    clear hH0 hal hel hfmt
    go_enter Tryd.func18, Tryd.ntmps18
    go_wp2_with fail
    refine C.out.mono ?_
    rintro e w1 ⟨rfl, rfl⟩
    go_wp2_with fail
    refine HF.out.mono ?_
    rintro e w2 ⟨rfl, k, v', dk, rfl, hF⟩
    have hcv : (convert 24 9 (.slice (some ⟨w.heap.size, 0, none⟩) (nDigits u) 24)).run Tryd.prog ((putRow (fun (b : UInt8) => Value.int .u8 (b.toNat : Int)) (w.alloc (.cells zeros24 44)) w.heap.size 0 dk).drewN k) = .ok (.string ⟨(decDigits u).toArray⟩) ((putRow (fun (b : UInt8) => Value.int .u8 (b.toNat : Int)) (w.alloc (.cells zeros24 44)) w.heap.size 0 dk).drewN k) := by
      have h := run_convert_bytes_back (P := Tryd.prog) ((putRow (fun (b : UInt8) => Value.int .u8 (b.toNat : Int)) (w.alloc (.cells zeros24 44)) w.heap.size 0 dk).drewN k) 24 9 5 ⟨w.heap.size, 0, none⟩ 24 (decDigits u) Tryd.underlying24 Tryd.underlying5 Tryd.underlying9 (fun j hj => by
        rw [row_is_numeral hF j hj, add_plain, World.cell?_drewN]
        exact cell?_putRow (fun (b : UInt8) => Value.int .u8 (b.toNat : Int)) _ w.heap.size 0 _ dk HH0.out (by rw [hF.size, Array.size_replicate]) j (by rw [hF.size]; rw [decDigits_length] at hj; exact hj))
      rw [decDigits_length] at h
      exact h
    have hbb : Below w.heap.size w ((putRow (fun (b : UInt8) => Value.int .u8 (b.toNat : Int)) (w.alloc (.cells zeros24 44)) w.heap.size 0 dk).drewN k) := by
      rw [alloc_eq_grow]
      obtain ⟨os', _, e⟩ := putRow_grow_new (fun (b : UInt8) => Value.int .u8 (b.toNat : Int)) w #[.cells zeros24 44] w.heap.size 0 dk (Nat.le_refl _)
      rw [e]
      exact below_grow w.heap.size w (Nat.le_refl _) k os'
    have HBB := Lib.hid hbb
    clear hbb hF
    go_wp2
    go_ret
    exact ⟨rfl, HBB.out⟩

theorem formatUint_any (u : Nat) (hu64 : u < 18446744073709551616) (w : World) (htab : Tab w) :
    Calls Tryd.prog 15 #[.int .u64 u, .int .i64 10] w fun e w' => e = .returned (.string (S (decDigits u))) ∧ Below w.heap.size w w' := by
  have C := Lib.hid (formatUint_in u hu64 w htab)
  obtain ⟨t, ht⟩ : ∃ t, t = S (decDigits u) := ⟨_, rfl⟩
  rw [← ht] at C
  rw [← ht]
  clear htab ht
  go_enter Tryd.func15, Tryd.ntmps15
  go_wp2_with fail
  refine C.out.mono ?_
  rintro e w1 ⟨rfl, hb⟩
  go_wp2_with fail
  go_ret
  exact ⟨rfl, hb⟩

theorem itoa_any (n : Nat) (hn : n ≤ 100000000) (w : World) (htab : Tab w) :
    Calls Tryd.prog 16 #[.int .i64 (n : Nat)] w fun e w' => e = .returned (.string (S (decDigits n))) ∧ Below w.heap.size w w' :=
  (Tryd.strconv_Itoa (n : Int) (by omega) (by omega) w htab.1).mono fun e w' ⟨h1, k, os, h2⟩ => ⟨by rw [h1, itoa_nonneg]; rfl, by rw [h2]; exact below_grow w.heap.size w (Nat.le_refl _) k os⟩

theorem dec_len {u : Nat} (h : u < 18446744073709551616) : (S (decDigits u)).size ≤ 20 := by
  rw [S_size, decDigits_length]; exact nDigits_le20 u h

theorem line_any (s : ByteArray) (w : World) (hs : s.size ≤ 100000) (htab : Tab w) :
    Calls Tryd.prog 11 #[.string s] w fun e w' => e = .returned (.string (S (decDigits (sumS (L s)).toNat) ++ ⟨#[32]⟩ ++ S (decDigits s.size))) ∧ Below w.heap.size w w' := by
  have hg : 0 < w.heap.size := htab.2
  obtain ⟨c, hc⟩ : ∃ c, c = (sumS (L s)).toNat := ⟨_, rfl⟩
  have hc32 : c < 4294967296 := by rw [hc]; exact (sumS (L s)).isLt
  have C1 := Lib.hid (of_any s w hs)
  have C2 := Lib.hid (fun w ht => formatUint_any c (by omega) w ht)
  have C3 := Lib.hid (fun w ht => itoa_any s.size (by omega) w ht)
  have l1 := dec_len (u := c) (by omega)
  have l2 := dec_len (u := s.size) (by omega)
  rw [← hc] at C1
  rw [← hc]
  obtain ⟨t, ht⟩ : ∃ t, t = S (decDigits c) := ⟨_, rfl⟩
  obtain ⟨r, hr⟩ : ∃ r, r = S (decDigits s.size) := ⟨_, rfl⟩
  rw [← ht] at C2 l1
  rw [← hr] at C3 l2
  rw [← ht, ← hr]
  have HT := Lib.hid htab
  clear hc ht hr htab
  go_enter Tryd.func11, Tryd.ntmps11
  go_wp2_with fail
  refine C1.out.mono ?_
  rintro e w1 ⟨rfl, hb1⟩
  go_wp2_with fail
  refine (C2.out _ (HT.out.below hg hb1)).mono ?_
  rintro e w2 ⟨rfl, hb2⟩
  have hb3 := hb1.trans (hb2.mono hb1.size)
  clear hb1 hb2
  go_wp2_with fail
  refine (C3.out _ (HT.out.below hg hb3)).mono ?_
  rintro e w3 ⟨rfl, hb4⟩
  go_wp2_with fail
  go_ret
  exact ⟨rfl, hb3.trans (hb4.mono hb3.size)⟩

theorem anchor_any (w : World) (htab : Tab w) : Calls Tryd.prog 5 #[] w fun e w' => e = .returned (.bool true) ∧ Below w.heap.size w w' := by
  have C := Lib.hid (line_any ⟨#[]⟩ w (by decide) htab)
  have e1 : sumS (L ⟨#[]⟩) = 4294967295#32 := by
    show ~~~ addS (addS 0#32 []) (lenBytes 0) = _
    rw [lenBytes_zero]; decide
  rw [e1] at C
  have e2 : S (decDigits (4294967295#32 : BitVec 32).toNat) ++ ⟨#[32]⟩ ++ S (decDigits (⟨#[]⟩ : ByteArray).size) = ⟨#[52, 50, 57, 52, 57, 54, 55, 50, 57, 53, 32, 48]⟩ := by decide +kernel
  rw [e2] at C
  clear e1 e2 htab
  go_enter Tryd.func5, Tryd.ntmps5
  go_wp2_with fail
  refine C.out.mono ?_
  rintro e w1 ⟨rfl, hb⟩
  go_wp2_with fail
  go_ret
  exact ⟨rfl, hb⟩
end Go.Proofs.YtaanmmfhkhbchaaDoor
