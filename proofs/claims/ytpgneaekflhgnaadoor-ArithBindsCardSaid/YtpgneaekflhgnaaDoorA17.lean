/-
  The walks of the law's own variables: Set of the first name, Get of it.
-/
import Derived.Test.YtpgneaekflhgnaaDoorA16
namespace Go.Proofs.YtpgneaekflhgnaaDoor
open Go.RowKit

theorem infoV : (Tryd.prog.info? 72).map (fun i => (i.zero, i.size, i.bytes)) = some (some (.agg #[.string ByteArray.empty, .string ByteArray.empty]), 2, 32) := by kernel_rfl
/-- One name with its text, in block b. -/
def One (w : World) (b : Nat) : Prop := b < w.heap.size ∧ w.cell? ⟨b, 0, none⟩ = some (.string ⟨#[120]⟩) ∧ w.cell? ⟨b, 1, none⟩ = some (.string ⟨#[49, 52]⟩)
set_option maxHeartbeats 1000000 in
set_option maxRecDepth 100000 in
theorem rset_x (w : World) : Calls Tryd.prog 23 #[.slice none 0 0, .string ⟨#[120]⟩, .string ⟨#[49, 52]⟩] w fun e w' => ∃ b c, e = .returned (.slice (some ⟨b, 0, none⟩) 1 c) ∧ w.heap.size ≤ b ∧ One w' b ∧ Below w.heap.size w w' := by
  go_enter Tryd.func23, Tryd.ntmps23
  go_wp2_with fail
  refine wp_loop_rounds 1 ?_
  rw [rounds_succ]
  go_wp2_with (at_builtin; go_must (refine append_sl rfl _ _ 31 rfl w.heap.size 72 Tryd.underlying31 infoV rfl (by decide) (v := .slice none 0 0) (n := 0) (xs := []) rfl (World.ownsRow_nil _ _ _ _) (m := 1) (news := [.string ⟨#[120]⟩, .string ⟨#[49, 52]⟩]) rfl (sl_made_at _ #[.string ⟨#[120]⟩, .string ⟨#[49, 52]⟩] _ 1 2 rfl (by unfold maxLen; omega) (by simp)) (by omega) (by intro u hu; simp at hu; rcases hu with rfl | rfl <;> rfl) (by omega) (by simp) ?_; intro g1 cap1 w2 hown hgrow hlie hglt))
  have hb : Below w.heap.size w w2 := ((Below.refl w.heap.size w).alloc (Nat.le_refl _) _).grown hgrow (by simp) fun k hk => by cases hk
  have hge : w.heap.size ≤ g1 := (World.ownsRow.lt hown g1 rfl).1
  have ho : One w2 g1 := by
    obtain ⟨_, a, cap, h1, _, _, h2⟩ := Sl.of_own hown
    injection h1 with h1 _ _
    subst h1
    rcases h2 with h2 | ⟨b, off, h3, h4, h5⟩
    · omega
    · injection h3 with h3
      injection h3 with h3 h6 _
      subst h3 h6
      exact ⟨h4, h5 0 (by omega), h5 1 (by omega)⟩
  clear hown hgrow hlie hglt
  go_ret
  exact ⟨_, _, rfl, hge, ho, hb⟩
/-- The law's variables: none yet. -/
def VN (w : World) (vb : Nat) : Prop := Blk w vb 33 #[.slice none 0 0, .string ⟨#[]⟩]
/-- The law's variables: x is 14; in a block from lo on. -/
def VX (w : World) (vb lo : Nat) : Prop := ∃ b c, lo ≤ b ∧ Blk w vb 33 #[.slice (some ⟨b, 0, none⟩) 1 c, .string ⟨#[]⟩] ∧ One w b
set_option maxHeartbeats 1000000 in
theorem lset_x {w : World} {vb : Nat} (h : VN w vb) : Calls Tryd.prog 96 #[.pointer (some ⟨vb, 0, none⟩), .string ⟨#[120]⟩, .string ⟨#[49, 52]⟩] w fun e w' => e = .returned (.int .i64 0) ∧ VX w' vb w.heap.size ∧ But vb vb w w' := by
  have y0 : w.cell? ⟨vb, 0, none⟩ = some (.slice none 0 0) := Blk.cell h 0
  have y1 : w.cell? ⟨vb, 1, none⟩ = some (.string ⟨#[]⟩) := Blk.cell h 1
  have hlt : vb < w.heap.size := Blk.lt h
  have C1 := Lib.hid (rset_x w)
  have HH := Lib.hid h
  clear h
  go_enter Tryd.func96, Tryd.ntmps96
  go_wp2_with fail
  refine C1.out.mono ?_
  rintro e w1 ⟨b, c, rfl, hge, ho, hb⟩
  have k1 := Blk.below HH.out hb hlt
  have z0 := k1.free 0
  have x0 : w1.cell? ⟨vb, 0, none⟩ = some (.slice none 0 0) := k1.cell 0
  have HF : Hid (VX (w1.setCell ⟨vb, 0, none⟩ (.slice (some ⟨b, 0, none⟩) 1 c)) vb w.heap.size ∧ But vb vb w (w1.setCell ⟨vb, 0, none⟩ (.slice (some ⟨b, 0, none⟩) 1 c))) := Lib.hid (by
    have hbv : b ≠ vb := by omega
    refine ⟨⟨b, c, hge, k1.put 0 _, ?_⟩, (But.of_below hb).setG 0 _⟩
    obtain ⟨h1, h2, h3⟩ := ho
    refine ⟨by simpa [World.setCell] using h1, ?_, ?_⟩
    · rw [World.cell?_setCell_other _ _ _ _ (by intro e; apply hbv; have := congrArg Addr.block e; simp at this; omega)]; exact h2
    · rw [World.cell?_setCell_other _ _ _ _ (by intro e; apply hbv; have := congrArg Addr.block e; simp at this; omega)]; exact h3)
  clear k1 hge ho hb
  go_wp2_with fail
  go_ret
  exact ⟨rfl, HF.out⟩
set_option maxHeartbeats 1000000 in
theorem lget_x {w : World} {vb lo : Nat} (h : VX w vb lo) : Calls Tryd.prog 14 #[.pointer (some ⟨vb, 0, none⟩), .string ⟨#[120]⟩] w fun e w' => e = .returned (.tuple #[.string ⟨#[49, 52]⟩, .bool true]) ∧ Below w.heap.size w w' := by
  obtain ⟨b, c, _, hk, hlt, h0, h1⟩ := h
  have y0 : w.cell? ⟨vb, 0, none⟩ = some (.slice (some ⟨b, 0, none⟩) 1 c) := Blk.cell hk 0
  clear hk
  go_enter Tryd.func14, Tryd.ntmps14
  go_wp2_with fail
  refine wp_loop_rounds 1 ?_
  rw [rounds_succ]
  go_wp2_with fail
  go_ret2
  exact ⟨rfl, by first | exact (Below.refl _ _).alloc (Nat.le_refl _) _ | exact ((Below.refl _ _).alloc (Nat.le_refl _) _).setCell (by simp) _⟩
end Go.Proofs.YtpgneaekflhgnaaDoor
