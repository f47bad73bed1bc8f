/-
  The walks of strconv.ParseInt of letters and digits, arith.Read, arith.Digits.
-/
import Derived.Test.YtpgneaekflhgnaaDoorN2
import Derived.Test.YtpgneaekflhgnaaDoorA1
import Derived.Test.YtpgneaekflhgnaaDoorK4
import Derived.Lib.LaidTab
import Derived.Lib.AppendIntMem
namespace Go.Proofs.YtpgneaekflhgnaaDoor
open Go.RowKit

/-- The table of the powers of ten lies as it was laid. -/
def Tab (w : World) : Prop := Lib.TabIs Tryd.prog w "internal/strconv.uint64pow10" .u64 Lib.pow10Tab ∧ 2 < w.heap.size
theorem Tab.below {w w' : World} (h : Tab w) {B : Nat} (hB : 2 < B) (hb : Below B w w') : Tab w' := by
  obtain ⟨h1, h2⟩ := h
  have hg : Tryd.prog.globalNamed "internal/strconv.uint64pow10" = some 2 := by kernel_rfl
  refine ⟨?_, Nat.lt_of_lt_of_le h2 hb.size⟩
  unfold Lib.TabIs World.var? at h1 ⊢
  rw [hg] at h1 ⊢
  simp only [Option.bind_some] at h1 ⊢
  rw [hb.block _ hB]
  exact h1
theorem Tab.on {w w' : World} (h : Tab w) (hb : Below w.heap.size w w') : Tab w' := h.below h.2 hb
theorem digits_any (n : Int) (h0 : -9223372036854775808 ≤ n) (h1 : n ≤ 9223372036854775807) (w : World) (htab : Tab w) :
    Calls Tryd.prog 13 #[.int .i64 n] w fun e w' => e = .returned (.string ⟨(Lib.itoa n).toArray⟩) ∧ Below w.heap.size w w' := by
  have C1 : Hid (Calls Tryd.prog 29 #[.int .i64 n, .int .i64 10] w fun e w' => e = .returned (.string ⟨(Lib.itoa n).toArray⟩) ∧ Below w.heap.size w w') := Lib.hid ((Tryd.strconv_FormatInt_10 n h0 h1 w htab.1).mono fun e w' ⟨h1, k, os, h2⟩ => ⟨h1, by rw [h2]; exact Lib.below_grow w.heap.size w (Nat.le_refl _) k os⟩)
  clear h0 h1 htab
  go_enter Tryd.func13, Tryd.ntmps13
  go_wp2_with fail
  refine C1.out.mono ?_
  rintro e w' ⟨rfl, hb⟩
  go_wp2_with fail
  go_ret
  exact ⟨rfl, hb⟩

/-- The two errors' variables are errors. -/
def ErrV (w : World) : Prop := (∃ e, w.cell? ⟨0, 0, none⟩ = some e ∧ (e = .nilIface ∨ ∃ te pe, e = .iface te pe)) ∧ ∃ e, w.cell? ⟨1, 0, none⟩ = some e ∧ (e = .nilIface ∨ ∃ te pe, e = .iface te pe)
theorem ErrV.below {w w' : World} (h : ErrV w) (hb : Below w.heap.size w w') : ErrV w' := by
  obtain ⟨⟨e, h1, h2⟩, e', h3, h4⟩ := h
  exact ⟨⟨e, (hb.cell (p := ⟨0, 0, none⟩) (World.block_lt_of_cell? w _ h1)).trans h1, h2⟩, e', (hb.cell (p := ⟨1, 0, none⟩) (World.block_lt_of_cell? w _ h3)).trans h3, h4⟩
def SPI (b : Nat) : Prop := ∀ (t : ByteArray) (w : World), t.size ≤ 1000 → (∀ c ∈ L t, letB c = true) → (readB b (L t) = none → ErrV w) →
  Calls Tryd.prog 27 #[.string t, .int .i64 b, .int .i64 64] w fun e w' =>
    ((∃ n : Nat, readB b (L t) = some n ∧ e = .returned (.tuple #[.int .i64 n, .nilIface])) ∨ (readB b (L t) = none ∧ ∃ (v : Int) (ty : TypeId) (x : Value), e = .returned (.tuple #[.int .i64 v, .iface ty x]))) ∧ Below w.heap.size w w'
theorem pi_all {b : Nat} (hb : b = 8 ∨ b = 10 ∨ b = 16) (t : ByteArray) (w : World) (hmax : t.size ≤ 1000) (hlet : ∀ c ∈ L t, letB c = true) :
    Calls Tryd.prog 35 #[.string t, .int .i64 b, .int .i64 64] w fun e w' => PiEnd b (L t) e ∧ Below w.heap.size w w' := by
  by_cases h0 : t.size = 0
  · have : t = ⟨#[]⟩ := by
      apply L_inj
      have : (L t).length = 0 := by rw [L_size]; exact h0
      rw [List.length_eq_zero_iff.1 this]; rfl
    subst this
    refine (Tryd.internal_strconv_ParseInt_empty b 64 w).mono ?_
    rintro e w' ⟨rfl, rfl⟩
    exact ⟨.inr ⟨readB_nil _, _, 2, .inr rfl, rfl⟩, Below.refl _ _⟩
  · rcases hb with rfl | rfl | rfl
    · exact pi_of 8 t h0 hmax hlet w (pu8_any t h0 hmax hlet w)
    · exact pi_of 10 t h0 hmax hlet w (pu10_any t h0 hmax hlet w)
    · exact pi_of 16 t h0 hmax hlet w (pu16_any t h0 hmax hlet w)
set_option maxHeartbeats 1000000 in
theorem spi_all {b : Nat} (hb : b = 8 ∨ b = 10 ∨ b = 16) : SPI b := by
  intro t w hmax hlet herr
  have C1 := Lib.hid (pi_all hb t w hmax hlet)
  have HE := Lib.hid herr
  have HM := Lib.hid hmax
  clear hb hmax hlet herr
  go_enter Tryd.func27, Tryd.ntmps27
  go_wp2_with fail
  refine C1.out.mono ?_
  rintro e w1 ⟨⟨n, hn, rfl⟩ | ⟨hn, v, y, hy, rfl⟩, hb1⟩
  · have HF := Lib.hid (And.intro hn hb1)
    clear hn hb1
    go_wp2_with fail
    go_ret2
    exact ⟨.inl ⟨n, HF.out.1, rfl⟩, HF.out.2⟩
  · have HF := Lib.hid (And.intro hn hb1)
    have hev := (HE.out hn).below hb1
    clear hn hb1
    obtain ⟨⟨e0, h1, h2⟩, e1, h3, h4⟩ := hev
    rcases hy with rfl | rfl
    · have C2 : Hid (∀ fn : ByteArray, fn.size ≤ 100 → Calls Tryd.prog 36 #[.string fn, .string t, .int .i64 b, .int .i64 64, .iface 85 (.int .i64 1)] w1 fun e w' => (∃ N, e = .returned (.iface 89 (.pointer (some ⟨N, 0, none⟩)))) ∧ Below w1.heap.size w1 w') := Lib.hid fun fn hf => (Tryd.strconv_toError_range fn t b 64 e1 w1 (by have := HM.out; omega) h3 h4).mono fun e w' ⟨N, h, _, _, hb⟩ => ⟨⟨N, h⟩, hb⟩
      clear h1 h2 h3 h4
      go_wp2_with fail
      refine (C2.out _ (by decide)).mono ?_
      rintro e w2 ⟨⟨N, rfl⟩, hb2⟩
      have HB2 := Lib.hid (HF.out.2.trans (hb2.mono HF.out.2.size))
      clear hb2
      go_wp2_with fail
      go_ret2
      exact ⟨.inr ⟨HF.out.1, _, _, _, rfl⟩, HB2.out⟩
    · have C2 : Hid (∀ fn : ByteArray, fn.size ≤ 100 → Calls Tryd.prog 36 #[.string fn, .string t, .int .i64 b, .int .i64 64, .iface 85 (.int .i64 2)] w1 fun e w' => (∃ N, e = .returned (.iface 89 (.pointer (some ⟨N, 0, none⟩)))) ∧ Below w1.heap.size w1 w') := Lib.hid fun fn hf => (Tryd.strconv_toError_syntax fn t b 64 e0 w1 (by have := HM.out; omega) h1 h2).mono fun e w' ⟨N, h, _, _, hb⟩ => ⟨⟨N, h⟩, hb⟩
      clear h1 h2 h3 h4
      go_wp2_with fail
      refine (C2.out _ (by decide)).mono ?_
      rintro e w2 ⟨⟨N, rfl⟩, hb2⟩
      have HB2 := Lib.hid (HF.out.2.trans (hb2.mono HF.out.2.size))
      clear hb2
      go_wp2_with fail
      go_ret2
      exact ⟨.inr ⟨HF.out.1, _, _, _, rfl⟩, HB2.out⟩
end Go.Proofs.YtpgneaekflhgnaaDoor
