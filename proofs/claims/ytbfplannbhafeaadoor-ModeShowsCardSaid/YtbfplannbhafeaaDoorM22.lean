/-
  Letters: the walk.
-/
import Derived.Test.YtbfplannbhafeaaDoorM21
namespace Go.Proofs.YtbfplannbhafeaaDoor
open Go.RowKit

@[go_sem] theorem bits_and_1 (x : Int) : bits BinOp.and .i64 x 1 = x % 2 := bits_and_mask .i64 1 (by decide) x

/-- The buffer behind n rounds: its variable is block b. -/
structure Buf (w : World) (bm b m : Nat) (v : Value) (bl : List UInt8) : Prop where
  lt : b < w.heap.size
  cm : w.cell? ⟨bm, 0, none⟩ = some (.int .i64 (m : Nat))
  lm : bm < b
  hv : w.heap[b]? = some (.cells #[v] 46 (0, 0))
  own : OwnB w (bm + 1) v bl
  ne : v.ownBlock ≠ some b

theorem Buf.push {w w1 : World} {bm b m g cap : Nat} {v : Value} {bl bl' : List UInt8} (h : Buf w bm b m v bl) {o : Obj} (hown : OwnB w1 (bm + 1) (.slice (some ⟨g, 0, none⟩) bl'.length cap) bl') (hb : (w.alloc o).grownBy w1 v.ownBlock) (hg : v.ownBlock = some g ∨ g = w.heap.size + 1) :
    Buf (w1.setCell ⟨b, 0, none⟩ (.slice (some ⟨g, 0, none⟩) bl'.length cap)) bm b m (.slice (some ⟨g, 0, none⟩) bl'.length cap) bl' := by
  obtain ⟨h1, h2, h3, h4, h5, h6⟩ := h
  have hs := hb.size
  have hbm : v.ownBlock ≠ some bm := fun e => by have := (World.ownsRow.lt h5 bm e).1; omega
  have e1 : w1.heap[b]? = some (.cells #[v] 46 (0, 0)) := by rw [hb.block b (by simp; omega) (Ne.symm h6), Below.heap_alloc w o b h1, h4]
  have e0 : w1.heap[bm]? = w.heap[bm]? := by rw [hb.block bm (by simp; omega) (Ne.symm hbm), Below.heap_alloc w o bm (by omega)]
  have hgb : g ≠ b := by
    rintro rfl
    rcases hg with hg | hg
    · exact h6 hg
    · omega
  refine ⟨?_, ?_, h3, one_setCell e1, ownsRow_setCell_other hown (by simp [Value.ownBlock]; exact hgb) _, by simp [Value.ownBlock]; exact hgb⟩
  · simp [World.setCell] at hs ⊢; omega
  · rw [World.cell?_setCell_other _ _ _ _ (by intro e; injection e with e _; omega), ← h2]
    exact World.cell?_of_block e0

theorem cell?_start (kind : UInt8) (m : Nat) (w : World) : (((w.alloc (.cells #[.int .i64 (m : Nat)] 3)).alloc (.cells #[.int .u8 ((kind.toNat : Nat) : Int)] 5)).alloc (.cells #[.slice (some ⟨w.heap.size + 1, 0, none⟩) 1 1] 46)).cell? ⟨w.heap.size, 0, none⟩ = some (.int .i64 (m : Nat)) := by
  rw [World.cell?_alloc_lt _ _ _ (by simp; omega), World.cell?_alloc_lt _ _ _ (by simp)]
  simp
theorem Buf.start (kind : UInt8) (m : Nat) (w : World) : Buf (((w.alloc (.cells #[.int .i64 (m : Nat)] 3)).alloc (.cells #[.int .u8 ((kind.toNat : Nat) : Int)] 5)).alloc (.cells #[.slice (some ⟨w.heap.size + 1, 0, none⟩) 1 1] 46)) w.heap.size (w.heap.size + 2) m (.slice (some ⟨w.heap.size + 1, 0, none⟩) 1 1) (kind :: rounds9 m 0) := by
  have h1 : ∀ o : Obj, (w.alloc o).heap.size = w.heap.size + 1 := fun o => by simp
  have h2 : ∀ o o' : Obj, ((w.alloc o).alloc o').heap.size = w.heap.size + 2 := fun o o' => by simp
  refine ⟨by simp, cell?_start kind m w, by omega, ?_, ?_, by simp [Value.ownBlock]⟩
  · have := heap_alloc_new ((w.alloc (.cells #[.int .i64 (m : Nat)] 3)).alloc (.cells #[.int .u8 ((kind.toNat : Nat) : Int)] 5)) (.cells #[.slice (some ⟨w.heap.size + 1, 0, none⟩) 1 1] 46)
    rw [h2] at this; exact this
  · refine OwnB.alloc ?_ _
    have := OwnB.made (w := w.alloc (.cells #[.int .i64 (m : Nat)] 3)) (B := w.heap.size + 1) [kind] (by simp) (by unfold maxLen; simp) (n := 1) rfl (c := #[.int .u8 ((kind.toNat : Nat) : Int)]) rfl
    rw [h1] at this
    exact this

theorem Buf.round {w w1 : World} {bm b m n g cap : Nat} {v : Value} {kind c : UInt8} (h : Buf w bm b m v (kind :: rounds9 m n)) (hc : chr m (8 - n) = c) {o : Obj} (hown : OwnB w1 (bm + 1) (.slice (some ⟨g, 0, none⟩) ((kind :: rounds9 m n).length + 1) cap) (kind :: rounds9 m n ++ [c]))
    (hb : (w.alloc o).grownBy w1 v.ownBlock) (hg : v.ownBlock = some g ∨ g = (w.alloc o).heap.size) {len : Nat} (hl : len = n + 2) : Buf (w1.setCell ⟨b, 0, none⟩ (.slice (some ⟨g, 0, none⟩) len cap)) bm b m (.slice (some ⟨g, 0, none⟩) len cap) (kind :: rounds9 m (n + 1)) := by
  have e : kind :: rounds9 m n ++ [c] = kind :: rounds9 m (n + 1) := by rw [rounds9, hc]; rfl
  have e2 : (kind :: rounds9 m (n + 1)).length = len := by rw [List.length_cons, rounds9_len, hl]
  have e3 : (kind :: rounds9 m n).length + 1 = len := by rw [List.length_cons, rounds9_len, hl]
  rw [e, e3] at hown
  have := Buf.push (bl' := kind :: rounds9 m (n + 1)) h (by rw [e2]; exact hown) hb (by simpa using hg)
  rw [e2] at this
  exact this
theorem Buf.under {w w0 w1 : World} {bm b m g cap len : Nat} {v : Value} {bl : List UInt8} (h : Buf w bm b m v bl) {o : Obj} (hb : (w.alloc o).grownBy w1 v.ownBlock) (hb0 : Below bm w0 w) : Below bm w0 (w1.setCell ⟨b, 0, none⟩ (.slice (some ⟨g, 0, none⟩) len cap)) := by
  have h1 := h.lt
  have h2 := h.lm
  refine Below.setCell (Below.grown (Below.alloc hb0 (by omega) o) hb (by simp; omega) fun k hk => ?_) (by simp; omega) _
  have := (World.ownsRow.lt h.own k hk).1
  omega
theorem Buf.linv {w : World} {bm b m : Nat} {v : Value} {bl : List UInt8} (h : Buf w bm b m v bl) (hl : bl.length = 10) : ∃ g cap, v = .slice (some ⟨g, 0, none⟩) 10 cap ∧ bm + 1 ≤ g ∧ LInv w bm b g cap m bl := by
  obtain ⟨h1, h2, h3, h4, h5, h6⟩ := h
  rcases h5.form with ⟨_, rfl⟩ | ⟨g, cap, rfl, hg, _, _, hB⟩
  · simp at hl
  · refine ⟨g, cap, by rw [hl], hg, h2, ?_, hB, hl, by omega, ?_⟩
    · rw [← hl]; exact cell_of_one h4
    · simp [Value.ownBlock] at h6; exact Ne.symm h6

theorem chr_round (m n : Nat) (tb : Bool) (h : m.testBit (8 - n) = tb) : chr m (8 - n) = if tb then (if (8 - n) % 3 = 0 then 120 else if (8 - n) % 3 = 1 then 119 else 114) else 45 := by rw [chr, h]

set_option maxHeartbeats 4000000 in
set_option maxRecDepth 100000 in
theorem letters_any (kind : UInt8) (m : Nat) (w : World) (hm : m < 4096) :
    Calls Tryd.prog 15 #[.int .u8 ((kind.toNat : Nat) : Int), .int .i64 (m : Nat)] w fun e w' => e = .returned (.string (S (lettersP kind m))) ∧ Below w.heap.size w w' := by
  have n0 : ∀ w : World, (Instr.index 9 (.string ⟨#[120, 119, 114]⟩) (.int .i64 0)).run Tryd.prog w = .ok (.int .u8 120) w := run_idx (P := Tryd.prog) (k := .i64) Tryd.underlying9 ⟨#[120, 119, 114]⟩ 0 0 rfl (by decide)
  have n1 : ∀ w : World, (Instr.index 9 (.string ⟨#[120, 119, 114]⟩) (.int .i64 1)).run Tryd.prog w = .ok (.int .u8 119) w := run_idx (P := Tryd.prog) (k := .i64) Tryd.underlying9 ⟨#[120, 119, 114]⟩ 1 1 rfl (by decide)
  have n2 : ∀ w : World, (Instr.index 9 (.string ⟨#[120, 119, 114]⟩) (.int .i64 2)).run Tryd.prog w = .ok (.int .u8 114) w := run_idx (P := Tryd.prog) (k := .i64) Tryd.underlying9 ⟨#[120, 119, 114]⟩ 2 2 rfl (by decide)
  have hmf : ∀ (fn : Fn) (first cap : Array Value) (w : World), (Instr.makeFunc fn first cap).run Tryd.prog w = .ok (.func fn first cap) w := fun _ _ _ _ => rfl
  go_enter Tryd.func15, Tryd.ntmps15
  go_wp2_with fail
  go_loopw [6, 7] (fun i c wr => ∃ (n : Nat) (v : Value), n ≤ 9 ∧ i = .int .i64 (8 - (n : Int)) ∧ Buf wr w.heap.size (w.heap.size + 2) m v (kind :: rounds9 m n) ∧ Below w.heap.size w wr) (fun i _ _ => (intOf i + 1).toNat)
  case atStart =>
    refine ⟨0, .slice (some ⟨w.heap.size + 1, 0, none⟩) 1 1, by omega, rfl, ?_, Below.alloc (Below.alloc (Below.alloc (Below.refl _ _) (Nat.le_refl _) _) (by simp) _) (by simp; omega) _⟩
    exact Buf.start kind m w
  case round =>
    obtain ⟨n, v, hn, rfl, hbuf, hb⟩ := hrel
    have hlt := hbuf.lt
    have hcm := hbuf.cm
    have e1 : wr.cell? ⟨w.heap.size + 2, 0, none⟩ = some v := cell_of_one hbuf.hv
    have e2 : wr.frozen? ⟨w.heap.size + 2, 0, none⟩ = false := free_of_one hbuf.hv
    have HBUF := Lib.hid hbuf
    have HB := Lib.hid hb
    clear hbuf hb
    by_cases h9 : n < 9
    · obtain ⟨tb, htb⟩ : ∃ b, m.testBit (8 - n) = b := ⟨_, rfl⟩
      have hch := chr_round m n tb htb
      rcases (by omega : n = 0 ∨ n = 1 ∨ n = 2 ∨ n = 3 ∨ n = 4 ∨ n = 5 ∨ n = 6 ∨ n = 7 ∨ n = 8) with rfl | rfl | rfl | rfl | rfl | rfl | rfl | rfl | rfl
      · have ht : ((m : Int) / 256 % 2 == 1) = tb := by
          rw [← htb, Nat.testBit_eq_decide_div_mod_eq, Bool.eq_iff_iff, beq_iff_eq, decide_eq_true_iff]; omega
        clear htb
        cases tb
        · have hch : chr m (8 - 0) = 45 := hch
          go_wp2_with (at_builtin; go_must (refine append_byte_lies rfl _ _ rfl rfl (v := v) (OwnB.alloc HBUF.out.own _) 45 rfl (cell_new _ _ _) (by simp [rounds9_len]) (by simp; omega) ?_); intro g cap w1 hown hbw hgl; have hblk := (hbw.block (w.heap.size + 2) (by simp; omega) (Ne.symm HBUF.out.ne)).trans (Below.heap_alloc wr _ (w.heap.size + 2) hlt); have f1 := (World.cell?_of_block (a := ⟨w.heap.size + 2, 0, none⟩) hblk).trans e1; have f2 := (World.frozen?_of_block (a := ⟨w.heap.size + 2, 0, none⟩) hblk).trans e2; have HOWN := Lib.hid hown; have HBW := Lib.hid hbw; have HGL := Lib.hid hgl; clear hown hbw hgl hblk)
          go_roundw
          case rel => exact ⟨0 + 1, _, by omega, rfl, Buf.round HBUF.out hch HOWN.out HBW.out HGL.out (by simp [rounds9_len]), Buf.under HBUF.out HBW.out HB.out⟩
          case measure => simp [intOf]
        · have hch : chr m (8 - 0) = 114 := hch
          go_wp2_with (at_builtin; go_must (refine append_byte_lies rfl _ _ rfl rfl (v := v) (OwnB.alloc HBUF.out.own _) 114 rfl (cell_new _ _ _) (by simp [rounds9_len]) (by simp; omega) ?_); intro g cap w1 hown hbw hgl; have hblk := (hbw.block (w.heap.size + 2) (by simp; omega) (Ne.symm HBUF.out.ne)).trans (Below.heap_alloc wr _ (w.heap.size + 2) hlt); have f1 := (World.cell?_of_block (a := ⟨w.heap.size + 2, 0, none⟩) hblk).trans e1; have f2 := (World.frozen?_of_block (a := ⟨w.heap.size + 2, 0, none⟩) hblk).trans e2; have HOWN := Lib.hid hown; have HBW := Lib.hid hbw; have HGL := Lib.hid hgl; clear hown hbw hgl hblk)
          go_roundw
          case rel => exact ⟨0 + 1, _, by omega, rfl, Buf.round HBUF.out hch HOWN.out HBW.out HGL.out (by simp [rounds9_len]), Buf.under HBUF.out HBW.out HB.out⟩
          case measure => simp [intOf]
      · have ht : ((m : Int) / 128 % 2 == 1) = tb := by
          rw [← htb, Nat.testBit_eq_decide_div_mod_eq, Bool.eq_iff_iff, beq_iff_eq, decide_eq_true_iff]; omega
        clear htb
        cases tb
        · have hch : chr m (8 - 1) = 45 := hch
          go_wp2_with (at_builtin; go_must (refine append_byte_lies rfl _ _ rfl rfl (v := v) (OwnB.alloc HBUF.out.own _) 45 rfl (cell_new _ _ _) (by simp [rounds9_len]) (by simp; omega) ?_); intro g cap w1 hown hbw hgl; have hblk := (hbw.block (w.heap.size + 2) (by simp; omega) (Ne.symm HBUF.out.ne)).trans (Below.heap_alloc wr _ (w.heap.size + 2) hlt); have f1 := (World.cell?_of_block (a := ⟨w.heap.size + 2, 0, none⟩) hblk).trans e1; have f2 := (World.frozen?_of_block (a := ⟨w.heap.size + 2, 0, none⟩) hblk).trans e2; have HOWN := Lib.hid hown; have HBW := Lib.hid hbw; have HGL := Lib.hid hgl; clear hown hbw hgl hblk)
          go_roundw
          case rel => exact ⟨1 + 1, _, by omega, rfl, Buf.round HBUF.out hch HOWN.out HBW.out HGL.out (by simp [rounds9_len]), Buf.under HBUF.out HBW.out HB.out⟩
          case measure => simp [intOf]
        · have hch : chr m (8 - 1) = 119 := hch
          go_wp2_with (at_builtin; go_must (refine append_byte_lies rfl _ _ rfl rfl (v := v) (OwnB.alloc HBUF.out.own _) 119 rfl (cell_new _ _ _) (by simp [rounds9_len]) (by simp; omega) ?_); intro g cap w1 hown hbw hgl; have hblk := (hbw.block (w.heap.size + 2) (by simp; omega) (Ne.symm HBUF.out.ne)).trans (Below.heap_alloc wr _ (w.heap.size + 2) hlt); have f1 := (World.cell?_of_block (a := ⟨w.heap.size + 2, 0, none⟩) hblk).trans e1; have f2 := (World.frozen?_of_block (a := ⟨w.heap.size + 2, 0, none⟩) hblk).trans e2; have HOWN := Lib.hid hown; have HBW := Lib.hid hbw; have HGL := Lib.hid hgl; clear hown hbw hgl hblk)
          go_roundw
          case rel => exact ⟨1 + 1, _, by omega, rfl, Buf.round HBUF.out hch HOWN.out HBW.out HGL.out (by simp [rounds9_len]), Buf.under HBUF.out HBW.out HB.out⟩
          case measure => simp [intOf]
      · have ht : ((m : Int) / 64 % 2 == 1) = tb := by
          rw [← htb, Nat.testBit_eq_decide_div_mod_eq, Bool.eq_iff_iff, beq_iff_eq, decide_eq_true_iff]; omega
        clear htb
        cases tb
        · have hch : chr m (8 - 2) = 45 := hch
          go_wp2_with (at_builtin; go_must (refine append_byte_lies rfl _ _ rfl rfl (v := v) (OwnB.alloc HBUF.out.own _) 45 rfl (cell_new _ _ _) (by simp [rounds9_len]) (by simp; omega) ?_); intro g cap w1 hown hbw hgl; have hblk := (hbw.block (w.heap.size + 2) (by simp; omega) (Ne.symm HBUF.out.ne)).trans (Below.heap_alloc wr _ (w.heap.size + 2) hlt); have f1 := (World.cell?_of_block (a := ⟨w.heap.size + 2, 0, none⟩) hblk).trans e1; have f2 := (World.frozen?_of_block (a := ⟨w.heap.size + 2, 0, none⟩) hblk).trans e2; have HOWN := Lib.hid hown; have HBW := Lib.hid hbw; have HGL := Lib.hid hgl; clear hown hbw hgl hblk)
          go_roundw
          case rel => exact ⟨2 + 1, _, by omega, rfl, Buf.round HBUF.out hch HOWN.out HBW.out HGL.out (by simp [rounds9_len]), Buf.under HBUF.out HBW.out HB.out⟩
          case measure => simp [intOf]
        · have hch : chr m (8 - 2) = 120 := hch
          go_wp2_with (at_builtin; go_must (refine append_byte_lies rfl _ _ rfl rfl (v := v) (OwnB.alloc HBUF.out.own _) 120 rfl (cell_new _ _ _) (by simp [rounds9_len]) (by simp; omega) ?_); intro g cap w1 hown hbw hgl; have hblk := (hbw.block (w.heap.size + 2) (by simp; omega) (Ne.symm HBUF.out.ne)).trans (Below.heap_alloc wr _ (w.heap.size + 2) hlt); have f1 := (World.cell?_of_block (a := ⟨w.heap.size + 2, 0, none⟩) hblk).trans e1; have f2 := (World.frozen?_of_block (a := ⟨w.heap.size + 2, 0, none⟩) hblk).trans e2; have HOWN := Lib.hid hown; have HBW := Lib.hid hbw; have HGL := Lib.hid hgl; clear hown hbw hgl hblk)
          go_roundw
          case rel => exact ⟨2 + 1, _, by omega, rfl, Buf.round HBUF.out hch HOWN.out HBW.out HGL.out (by simp [rounds9_len]), Buf.under HBUF.out HBW.out HB.out⟩
          case measure => simp [intOf]
      · have ht : ((m : Int) / 32 % 2 == 1) = tb := by
          rw [← htb, Nat.testBit_eq_decide_div_mod_eq, Bool.eq_iff_iff, beq_iff_eq, decide_eq_true_iff]; omega
        clear htb
        cases tb
        · have hch : chr m (8 - 3) = 45 := hch
          go_wp2_with (at_builtin; go_must (refine append_byte_lies rfl _ _ rfl rfl (v := v) (OwnB.alloc HBUF.out.own _) 45 rfl (cell_new _ _ _) (by simp [rounds9_len]) (by simp; omega) ?_); intro g cap w1 hown hbw hgl; have hblk := (hbw.block (w.heap.size + 2) (by simp; omega) (Ne.symm HBUF.out.ne)).trans (Below.heap_alloc wr _ (w.heap.size + 2) hlt); have f1 := (World.cell?_of_block (a := ⟨w.heap.size + 2, 0, none⟩) hblk).trans e1; have f2 := (World.frozen?_of_block (a := ⟨w.heap.size + 2, 0, none⟩) hblk).trans e2; have HOWN := Lib.hid hown; have HBW := Lib.hid hbw; have HGL := Lib.hid hgl; clear hown hbw hgl hblk)
          go_roundw
          case rel => exact ⟨3 + 1, _, by omega, rfl, Buf.round HBUF.out hch HOWN.out HBW.out HGL.out (by simp [rounds9_len]), Buf.under HBUF.out HBW.out HB.out⟩
          case measure => simp [intOf]
        · have hch : chr m (8 - 3) = 114 := hch
          go_wp2_with (at_builtin; go_must (refine append_byte_lies rfl _ _ rfl rfl (v := v) (OwnB.alloc HBUF.out.own _) 114 rfl (cell_new _ _ _) (by simp [rounds9_len]) (by simp; omega) ?_); intro g cap w1 hown hbw hgl; have hblk := (hbw.block (w.heap.size + 2) (by simp; omega) (Ne.symm HBUF.out.ne)).trans (Below.heap_alloc wr _ (w.heap.size + 2) hlt); have f1 := (World.cell?_of_block (a := ⟨w.heap.size + 2, 0, none⟩) hblk).trans e1; have f2 := (World.frozen?_of_block (a := ⟨w.heap.size + 2, 0, none⟩) hblk).trans e2; have HOWN := Lib.hid hown; have HBW := Lib.hid hbw; have HGL := Lib.hid hgl; clear hown hbw hgl hblk)
          go_roundw
          case rel => exact ⟨3 + 1, _, by omega, rfl, Buf.round HBUF.out hch HOWN.out HBW.out HGL.out (by simp [rounds9_len]), Buf.under HBUF.out HBW.out HB.out⟩
          case measure => simp [intOf]
      · have ht : ((m : Int) / 16 % 2 == 1) = tb := by
          rw [← htb, Nat.testBit_eq_decide_div_mod_eq, Bool.eq_iff_iff, beq_iff_eq, decide_eq_true_iff]; omega
        clear htb
        cases tb
        · have hch : chr m (8 - 4) = 45 := hch
          go_wp2_with (at_builtin; go_must (refine append_byte_lies rfl _ _ rfl rfl (v := v) (OwnB.alloc HBUF.out.own _) 45 rfl (cell_new _ _ _) (by simp [rounds9_len]) (by simp; omega) ?_); intro g cap w1 hown hbw hgl; have hblk := (hbw.block (w.heap.size + 2) (by simp; omega) (Ne.symm HBUF.out.ne)).trans (Below.heap_alloc wr _ (w.heap.size + 2) hlt); have f1 := (World.cell?_of_block (a := ⟨w.heap.size + 2, 0, none⟩) hblk).trans e1; have f2 := (World.frozen?_of_block (a := ⟨w.heap.size + 2, 0, none⟩) hblk).trans e2; have HOWN := Lib.hid hown; have HBW := Lib.hid hbw; have HGL := Lib.hid hgl; clear hown hbw hgl hblk)
          go_roundw
          case rel => exact ⟨4 + 1, _, by omega, rfl, Buf.round HBUF.out hch HOWN.out HBW.out HGL.out (by simp [rounds9_len]), Buf.under HBUF.out HBW.out HB.out⟩
          case measure => simp [intOf]
        · have hch : chr m (8 - 4) = 119 := hch
          go_wp2_with (at_builtin; go_must (refine append_byte_lies rfl _ _ rfl rfl (v := v) (OwnB.alloc HBUF.out.own _) 119 rfl (cell_new _ _ _) (by simp [rounds9_len]) (by simp; omega) ?_); intro g cap w1 hown hbw hgl; have hblk := (hbw.block (w.heap.size + 2) (by simp; omega) (Ne.symm HBUF.out.ne)).trans (Below.heap_alloc wr _ (w.heap.size + 2) hlt); have f1 := (World.cell?_of_block (a := ⟨w.heap.size + 2, 0, none⟩) hblk).trans e1; have f2 := (World.frozen?_of_block (a := ⟨w.heap.size + 2, 0, none⟩) hblk).trans e2; have HOWN := Lib.hid hown; have HBW := Lib.hid hbw; have HGL := Lib.hid hgl; clear hown hbw hgl hblk)
          go_roundw
          case rel => exact ⟨4 + 1, _, by omega, rfl, Buf.round HBUF.out hch HOWN.out HBW.out HGL.out (by simp [rounds9_len]), Buf.under HBUF.out HBW.out HB.out⟩
          case measure => simp [intOf]
      · have ht : ((m : Int) / 8 % 2 == 1) = tb := by
          rw [← htb, Nat.testBit_eq_decide_div_mod_eq, Bool.eq_iff_iff, beq_iff_eq, decide_eq_true_iff]; omega
        clear htb
        cases tb
        · have hch : chr m (8 - 5) = 45 := hch
          go_wp2_with (at_builtin; go_must (refine append_byte_lies rfl _ _ rfl rfl (v := v) (OwnB.alloc HBUF.out.own _) 45 rfl (cell_new _ _ _) (by simp [rounds9_len]) (by simp; omega) ?_); intro g cap w1 hown hbw hgl; have hblk := (hbw.block (w.heap.size + 2) (by simp; omega) (Ne.symm HBUF.out.ne)).trans (Below.heap_alloc wr _ (w.heap.size + 2) hlt); have f1 := (World.cell?_of_block (a := ⟨w.heap.size + 2, 0, none⟩) hblk).trans e1; have f2 := (World.frozen?_of_block (a := ⟨w.heap.size + 2, 0, none⟩) hblk).trans e2; have HOWN := Lib.hid hown; have HBW := Lib.hid hbw; have HGL := Lib.hid hgl; clear hown hbw hgl hblk)
          go_roundw
          case rel => exact ⟨5 + 1, _, by omega, rfl, Buf.round HBUF.out hch HOWN.out HBW.out HGL.out (by simp [rounds9_len]), Buf.under HBUF.out HBW.out HB.out⟩
          case measure => simp [intOf]
        · have hch : chr m (8 - 5) = 120 := hch
          go_wp2_with (at_builtin; go_must (refine append_byte_lies rfl _ _ rfl rfl (v := v) (OwnB.alloc HBUF.out.own _) 120 rfl (cell_new _ _ _) (by simp [rounds9_len]) (by simp; omega) ?_); intro g cap w1 hown hbw hgl; have hblk := (hbw.block (w.heap.size + 2) (by simp; omega) (Ne.symm HBUF.out.ne)).trans (Below.heap_alloc wr _ (w.heap.size + 2) hlt); have f1 := (World.cell?_of_block (a := ⟨w.heap.size + 2, 0, none⟩) hblk).trans e1; have f2 := (World.frozen?_of_block (a := ⟨w.heap.size + 2, 0, none⟩) hblk).trans e2; have HOWN := Lib.hid hown; have HBW := Lib.hid hbw; have HGL := Lib.hid hgl; clear hown hbw hgl hblk)
          go_roundw
          case rel => exact ⟨5 + 1, _, by omega, rfl, Buf.round HBUF.out hch HOWN.out HBW.out HGL.out (by simp [rounds9_len]), Buf.under HBUF.out HBW.out HB.out⟩
          case measure => simp [intOf]
      · have ht : ((m : Int) / 4 % 2 == 1) = tb := by
          rw [← htb, Nat.testBit_eq_decide_div_mod_eq, Bool.eq_iff_iff, beq_iff_eq, decide_eq_true_iff]; omega
        clear htb
        cases tb
        · have hch : chr m (8 - 6) = 45 := hch
          go_wp2_with (at_builtin; go_must (refine append_byte_lies rfl _ _ rfl rfl (v := v) (OwnB.alloc HBUF.out.own _) 45 rfl (cell_new _ _ _) (by simp [rounds9_len]) (by simp; omega) ?_); intro g cap w1 hown hbw hgl; have hblk := (hbw.block (w.heap.size + 2) (by simp; omega) (Ne.symm HBUF.out.ne)).trans (Below.heap_alloc wr _ (w.heap.size + 2) hlt); have f1 := (World.cell?_of_block (a := ⟨w.heap.size + 2, 0, none⟩) hblk).trans e1; have f2 := (World.frozen?_of_block (a := ⟨w.heap.size + 2, 0, none⟩) hblk).trans e2; have HOWN := Lib.hid hown; have HBW := Lib.hid hbw; have HGL := Lib.hid hgl; clear hown hbw hgl hblk)
          go_roundw
          case rel => exact ⟨6 + 1, _, by omega, rfl, Buf.round HBUF.out hch HOWN.out HBW.out HGL.out (by simp [rounds9_len]), Buf.under HBUF.out HBW.out HB.out⟩
          case measure => simp [intOf]
        · have hch : chr m (8 - 6) = 114 := hch
          go_wp2_with (at_builtin; go_must (refine append_byte_lies rfl _ _ rfl rfl (v := v) (OwnB.alloc HBUF.out.own _) 114 rfl (cell_new _ _ _) (by simp [rounds9_len]) (by simp; omega) ?_); intro g cap w1 hown hbw hgl; have hblk := (hbw.block (w.heap.size + 2) (by simp; omega) (Ne.symm HBUF.out.ne)).trans (Below.heap_alloc wr _ (w.heap.size + 2) hlt); have f1 := (World.cell?_of_block (a := ⟨w.heap.size + 2, 0, none⟩) hblk).trans e1; have f2 := (World.frozen?_of_block (a := ⟨w.heap.size + 2, 0, none⟩) hblk).trans e2; have HOWN := Lib.hid hown; have HBW := Lib.hid hbw; have HGL := Lib.hid hgl; clear hown hbw hgl hblk)
          go_roundw
          case rel => exact ⟨6 + 1, _, by omega, rfl, Buf.round HBUF.out hch HOWN.out HBW.out HGL.out (by simp [rounds9_len]), Buf.under HBUF.out HBW.out HB.out⟩
          case measure => simp [intOf]
      · have ht : ((m : Int) / 2 % 2 == 1) = tb := by
          rw [← htb, Nat.testBit_eq_decide_div_mod_eq, Bool.eq_iff_iff, beq_iff_eq, decide_eq_true_iff]; omega
        clear htb
        cases tb
        · have hch : chr m (8 - 7) = 45 := hch
          go_wp2_with (at_builtin; go_must (refine append_byte_lies rfl _ _ rfl rfl (v := v) (OwnB.alloc HBUF.out.own _) 45 rfl (cell_new _ _ _) (by simp [rounds9_len]) (by simp; omega) ?_); intro g cap w1 hown hbw hgl; have hblk := (hbw.block (w.heap.size + 2) (by simp; omega) (Ne.symm HBUF.out.ne)).trans (Below.heap_alloc wr _ (w.heap.size + 2) hlt); have f1 := (World.cell?_of_block (a := ⟨w.heap.size + 2, 0, none⟩) hblk).trans e1; have f2 := (World.frozen?_of_block (a := ⟨w.heap.size + 2, 0, none⟩) hblk).trans e2; have HOWN := Lib.hid hown; have HBW := Lib.hid hbw; have HGL := Lib.hid hgl; clear hown hbw hgl hblk)
          go_roundw
          case rel => exact ⟨7 + 1, _, by omega, rfl, Buf.round HBUF.out hch HOWN.out HBW.out HGL.out (by simp [rounds9_len]), Buf.under HBUF.out HBW.out HB.out⟩
          case measure => simp [intOf]
        · have hch : chr m (8 - 7) = 119 := hch
          go_wp2_with (at_builtin; go_must (refine append_byte_lies rfl _ _ rfl rfl (v := v) (OwnB.alloc HBUF.out.own _) 119 rfl (cell_new _ _ _) (by simp [rounds9_len]) (by simp; omega) ?_); intro g cap w1 hown hbw hgl; have hblk := (hbw.block (w.heap.size + 2) (by simp; omega) (Ne.symm HBUF.out.ne)).trans (Below.heap_alloc wr _ (w.heap.size + 2) hlt); have f1 := (World.cell?_of_block (a := ⟨w.heap.size + 2, 0, none⟩) hblk).trans e1; have f2 := (World.frozen?_of_block (a := ⟨w.heap.size + 2, 0, none⟩) hblk).trans e2; have HOWN := Lib.hid hown; have HBW := Lib.hid hbw; have HGL := Lib.hid hgl; clear hown hbw hgl hblk)
          go_roundw
          case rel => exact ⟨7 + 1, _, by omega, rfl, Buf.round HBUF.out hch HOWN.out HBW.out HGL.out (by simp [rounds9_len]), Buf.under HBUF.out HBW.out HB.out⟩
          case measure => simp [intOf]
      · have ht : ((m : Int) % 2 == 1) = tb := by
          rw [← htb, Nat.testBit_eq_decide_div_mod_eq, Bool.eq_iff_iff, beq_iff_eq, decide_eq_true_iff]; omega
        clear htb
        cases tb
        · have hch : chr m (8 - 8) = 45 := hch
          go_wp2_with (at_builtin; go_must (refine append_byte_lies rfl _ _ rfl rfl (v := v) (OwnB.alloc HBUF.out.own _) 45 rfl (cell_new _ _ _) (by simp [rounds9_len]) (by simp; omega) ?_); intro g cap w1 hown hbw hgl; have hblk := (hbw.block (w.heap.size + 2) (by simp; omega) (Ne.symm HBUF.out.ne)).trans (Below.heap_alloc wr _ (w.heap.size + 2) hlt); have f1 := (World.cell?_of_block (a := ⟨w.heap.size + 2, 0, none⟩) hblk).trans e1; have f2 := (World.frozen?_of_block (a := ⟨w.heap.size + 2, 0, none⟩) hblk).trans e2; have HOWN := Lib.hid hown; have HBW := Lib.hid hbw; have HGL := Lib.hid hgl; clear hown hbw hgl hblk)
          go_roundw
          case rel => exact ⟨8 + 1, _, by omega, rfl, Buf.round HBUF.out hch HOWN.out HBW.out HGL.out (by simp [rounds9_len]), Buf.under HBUF.out HBW.out HB.out⟩
          case measure => simp [intOf]
        · have hch : chr m (8 - 8) = 120 := hch
          go_wp2_with (at_builtin; go_must (refine append_byte_lies rfl _ _ rfl rfl (v := v) (OwnB.alloc HBUF.out.own _) 120 rfl (cell_new _ _ _) (by simp [rounds9_len]) (by simp; omega) ?_); intro g cap w1 hown hbw hgl; have hblk := (hbw.block (w.heap.size + 2) (by simp; omega) (Ne.symm HBUF.out.ne)).trans (Below.heap_alloc wr _ (w.heap.size + 2) hlt); have f1 := (World.cell?_of_block (a := ⟨w.heap.size + 2, 0, none⟩) hblk).trans e1; have f2 := (World.frozen?_of_block (a := ⟨w.heap.size + 2, 0, none⟩) hblk).trans e2; have HOWN := Lib.hid hown; have HBW := Lib.hid hbw; have HGL := Lib.hid hgl; clear hown hbw hgl hblk)
          go_roundw
          case rel => exact ⟨8 + 1, _, by omega, rfl, Buf.round HBUF.out hch HOWN.out HBW.out HGL.out (by simp [rounds9_len]), Buf.under HBUF.out HBW.out HB.out⟩
          case measure => simp [intOf]
    · obtain rfl : n = 9 := by omega
      obtain ⟨g, cap, rfl, hg, hinv⟩ := HBUF.out.linv (by rw [List.length_cons, rounds9_len])
      have C1 : Hid (∀ w', LInv w' w.heap.size (w.heap.size + 2) g cap m (kind :: rounds9 m 9) → Calls Tryd.prog 24 #[.int .i64 3, .int .i64 2048, .int .u8 115, .int .u8 83, .pointer (some ⟨w.heap.size, 0, none⟩), .pointer (some ⟨w.heap.size + 2, 0, none⟩)] w'
        fun e w2 => e = .returned (.tuple #[]) ∧ LInv w2 w.heap.size (w.heap.size + 2) g cap m (markP m 11 3 115 83 (kind :: rounds9 m 9)) ∧ ∀ B, B ≤ g → Below B w' w2) := Lib.hid fun w' h => mark_any 11 3 115 83 _ _ g cap m _ w' h (by omega) (by omega) hm 2048 rfl
      have C2 : Hid (∀ w', LInv w' w.heap.size (w.heap.size + 2) g cap m (markP m 11 3 115 83 (kind :: rounds9 m 9)) → Calls Tryd.prog 24 #[.int .i64 6, .int .i64 1024, .int .u8 115, .int .u8 83, .pointer (some ⟨w.heap.size, 0, none⟩), .pointer (some ⟨w.heap.size + 2, 0, none⟩)] w'
        fun e w2 => e = .returned (.tuple #[]) ∧ LInv w2 w.heap.size (w.heap.size + 2) g cap m (markP m 10 6 115 83 (markP m 11 3 115 83 (kind :: rounds9 m 9))) ∧ ∀ B, B ≤ g → Below B w' w2) := Lib.hid fun w' h => mark_any 10 6 115 83 _ _ g cap m _ w' h (by omega) (by omega) hm 1024 rfl
      have C3 : Hid (∀ w', LInv w' w.heap.size (w.heap.size + 2) g cap m (markP m 10 6 115 83 (markP m 11 3 115 83 (kind :: rounds9 m 9))) → Calls Tryd.prog 24 #[.int .i64 9, .int .i64 512, .int .u8 116, .int .u8 84, .pointer (some ⟨w.heap.size, 0, none⟩), .pointer (some ⟨w.heap.size + 2, 0, none⟩)] w'
        fun e w2 => e = .returned (.tuple #[]) ∧ LInv w2 w.heap.size (w.heap.size + 2) g cap m (markP m 9 9 116 84 (markP m 10 6 115 83 (markP m 11 3 115 83 (kind :: rounds9 m 9)))) ∧ ∀ B, B ≤ g → Below B w' w2) := Lib.hid fun w' h => mark_any 9 9 116 84 _ _ g cap m _ w' h (by omega) (by omega) hm 512 rfl
      have HI := Lib.hid hinv
      clear hinv
      go_wp2_with fail
      refine (C1.out _ HI.out).mono ?_
      rintro e w2 ⟨rfl, hi2, hb2⟩
      have HI2 := Lib.hid hi2
      have HB2 := Lib.hid (hb2 w.heap.size (by omega))
      clear hi2 hb2
      go_wp2_with fail
      refine (C2.out _ HI2.out).mono ?_
      rintro e w3 ⟨rfl, hi3, hb3⟩
      have HI3 := Lib.hid hi3
      have HB3 := Lib.hid (hb3 w.heap.size (by omega))
      clear hi3 hb3
      go_wp2_with fail
      refine (C3.out _ HI3.out).mono ?_
      rintro e w4 ⟨rfl, hi4, hb4⟩
      have HB4 := Lib.hid (hb4 w.heap.size (by omega))
      have f1 := hi4.cb
      have f2 : (convert 46 9 (.slice (some ⟨g, 0, none⟩) 10 cap)).run Tryd.prog w4 = .ok (.string (S (lettersP kind m))) w4 := by
        rw [run_convK _ _ _ Tryd.underlying46 Tryd.underlying5 Tryd.underlying9, hi4.by_.bytes hi4.len]; rfl
      clear hi4 hb4 e1 hcm
      go_wp2_with fail
      go_ret
      exact ⟨rfl, ((HB.out.trans HB2.out).trans HB3.out).trans HB4.out⟩
end Go.Proofs.YtbfplannbhafeaaDoor
