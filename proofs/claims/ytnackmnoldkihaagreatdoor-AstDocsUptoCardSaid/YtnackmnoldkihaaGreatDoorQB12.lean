/-
  The document's tests against the program's: plain laws.
-/
import Derived.Test.YtnackmnoldkihaaGreatDoorQB11
import Derived.Test.YtnackmnoldkihaaGreatDoorQB7
import Derived.Deep.RegionLaw
import Derived.Test.YtnackmnoldkihaaGreatDoorQB5
import Derived.Test.YtnackmnoldkihaaGreatDoorQB4
import Derived.Lib.IndexMore
set_option linter.unusedVariables false
set_option linter.unusedSimpArgs false
/-
  The walks of the copies of words and of commands.
-/
namespace Go.Proofs.YtnackmnoldkihaaGreatDoor
open Go.RowKit

def WordsC (d : Nat) : Prop := ∀ (W : World) (l : List (List Pt)) (v : Value), WdsIn W W.heap.size d l v →
  Calls Tryz.prog 52 #[v] W fun e W' => ∃ a c, e = .returned (.slice a l.length c) ∧ WdsIn (onlyW W' (freshB W.heap.size [] none)) W'.heap.size d l (.slice a l.length c) ∧ Below W.heap.size W W'
def NodeC (d : Nat) : Prop := ∀ (W : World) (x : Nd) (c : List Value), NdC W W.heap.size d x c →
  Calls Tryz.prog 38 #[.agg c.toArray] W fun e W' => ∃ a1 c1 a2 c2 a3 c3 a4 c4 a5 c5, e = .returned (.agg #[.int .i64 x.kind, .string x.name, .slice a1 x.assigns.length c1, .slice a2 x.words.length c2, .slice a3 x.redirs.length c3, .slice a4 x.lists.length c4, .slice a5 x.arms.length c5]) ∧
    NdC (onlyW W' (freshB W.heap.size [] none)) W'.heap.size d x [.int .i64 x.kind, .string x.name, .slice a1 x.assigns.length c1, .slice a2 x.words.length c2, .slice a3 x.redirs.length c3, .slice a4 x.lists.length c4, .slice a5 x.arms.length c5] ∧ Below W.heap.size W W'
theorem infoPs14 : (Tryz.prog.info? 41).map (fun i => (i.zero, i.size, i.bytes)) = some (some (.slice none 0 0), 1, 24) := by kernel_rfl
theorem infoN14 : (Tryz.prog.info? 64).map (fun i => (i.zero, i.size, i.bytes)) = some (some (.agg #[.int .i64 0, .string ByteArray.empty, .slice none 0 0, .slice none 0 0, .slice none 0 0, .slice none 0 0, .slice none 0 0]), 7, 144) := by kernel_rfl

set_option maxHeartbeats 2000000 in
set_option maxRecDepth 100000 in
theorem words_copy (d : Nat) (hWC : WordC d) : WordsC d := by
  intro w l v hl
  obtain ⟨a, cap, rfl, hz⟩ := hl.len
  obtain ⟨n, hn⟩ : ∃ n, l.length = n := ⟨_, rfl⟩
  rw [hn] at hl hz ⊢
  have HL := Lib.hid hl
  have HN := Lib.hid hn
  have HWC := Lib.hid hWC
  clear hl hn hWC
  go_enter Tryz.func52, Tryz.ntmps52
  go_wp2_with fail
  go_loopw [3, 8] (fun t i W => ∃ k : Nat, k ≤ n ∧ i = .int .i64 k ∧ Copied W w.heap.size [] 41 1 (fun w B (y : List Pt) c => ∃ v, c = [v] ∧ PtsIn w B d y v) l k t ∧ Below w.heap.size w W) (fun _ i _ => n - (intOf i).toNat)
  case atStart => exact ⟨0, Nat.zero_le _, rfl, Copied.start _ _ _ _ _ _ _, Below.refl _ _⟩
  case round =>
    obtain ⟨k, hk, rfl, hcp, hB⟩ := hrel
    have hBz := hB.size
    by_cases hlt : k < n
    · obtain ⟨y, hy⟩ : ∃ y, l[k]? = .some y := ⟨_, List.getElem?_eq_getElem (by rw [HN.out]; exact hlt)⟩
      have HX := Lib.hid hy
      obtain ⟨b, o, c, hi, hbB, hce, ⟨yv, rfl, hyp⟩, _⟩ := HL.out.at 34 29 Tryz.underlying34 (by kernel_rfl) hy
      obtain ⟨a6, c6, rfl, _⟩ := hyp.shape
      obtain ⟨cs, q1, q2, q3, q4⟩ := hcp
      obtain ⟨sa, sc, rfl⟩ := own_shape q3
      have Q1 := Lib.hid q1
      have Q2 := Lib.hid q2
      have Q3 := Lib.hid q3
      have Q4 := Lib.hid q4
      have HRW : Hid (∀ b, (Value.slice sa k sc).ownBlock = some b → w.heap.size ≤ b ∧ b < wr.heap.size) := Lib.hid fun b e => World.ownsRow.lt Q3.out _ e
      have e0 := (hB.cell hbB).trans (hce 0 _ rfl)
      have hbB' := Nat.lt_of_lt_of_le hbB hB.size
      rw [Nat.add_zero] at e0
      have CW := Lib.hid (HWC.out wr y _ ((hyp.below hB).mono hBz))
      clear hy hce hyp q1 q2 q3 q4
      go_wp2_with fail
      refine CW.out.mono ?_
      rintro e w1 ⟨a7, c7, rfl, hp1, hb1⟩
      have HP1 := Lib.hid (later_pts hp1)
      have hz1 := hb1.size
      clear hp1
      go_wp2_with (at_builtin; go_must ((refine append_sl rfl _ _ 59 rfl w.heap.size 41 Tryz.underlying59 infoPs14 rfl (by decide) (v := .slice sa k sc) (n := k) (xs := cs.flatten) rfl (own_below Q3.out (by repeat' (first | (with_reducible assumption) | (with_reducible exact Below.refl _ _) | (with_reducible refine below_drewN ?_ _) | (with_reducible refine below_bytes ?_ ?_ _) | (with_reducible refine Below.alloc ?_ ?_ _) | (with_reducible refine Below.drew ?_) | (with_reducible refine Below.setCell ?_ ?_ _) | go_size))) (m := 1) (news := [.slice a7 y.length c7]) rfl (sl_made_at _ #[.slice a7 y.length c7] _ 1 1 rfl (by unfold maxLen; omega) (by simp)) (by omega) (by intro u hu; simp at hu; subst hu; rfl) (by omega) (by simp; omega) ?_); intro g1 cap1 w5 hown hgrow hlie hglt; have HB5 := Lib.hid (Below.grown (B := w.heap.size) (a := w) (hB.trans (Below.mono (B := wr.heap.size) (by repeat' (first | (with_reducible assumption) | (with_reducible exact Below.refl _ _) | (with_reducible refine below_drewN ?_ _) | (with_reducible refine below_bytes ?_ ?_ _) | (with_reducible refine Below.alloc ?_ ?_ _) | (with_reducible refine Below.drew ?_) | (with_reducible refine Below.setCell ?_ ?_ _) | go_size)) hBz)) hgrow (by simp; omega) (fun k e => (HRW.out k e).1)); have HP5 := Lib.hid (Copied.push (F := fun w B (y : List Pt) c => ∃ v, c = [v] ∧ PtsIn w B d y v) (l := l) (x := y) hgrow hlie hown (fun h x c ⟨v, e, hv⟩ => ⟨v, e, h.pts hv⟩) (w := wr) (by repeat' (first | (with_reducible assumption) | (with_reducible exact Below.refl _ _) | (with_reducible refine below_drewN ?_ _) | (with_reducible refine below_bytes ?_ ?_ _) | (with_reducible refine Below.alloc ?_ ?_ _) | (with_reducible refine Below.drew ?_) | (with_reducible refine Below.setCell ?_ ?_ _) | go_size)) Q1.out Q2.out Q4.out HX.out rfl ⟨_, rfl, HP1.out _ (by repeat' (first | (with_reducible assumption) | (with_reducible exact Below.refl _ _) | (with_reducible refine below_drewN ?_ _) | (with_reducible refine below_bytes ?_ ?_ _) | (with_reducible refine Below.alloc ?_ ?_ _) | (with_reducible refine Below.drew ?_) | (with_reducible refine Below.setCell ?_ ?_ _) | go_size)) _ _ _ hBz (by simp) fun b e => (HRW.out b e).2⟩); clear hown hgrow hlie hglt))
      go_roundw
      case rel => exact ⟨k + 1, by omega, by go_num, HP5.out, HB5.out⟩
      case measure => simp [intOf]; omega
    · obtain rfl : k = n := by omega
      have HCP := Lib.hid hcp
      obtain ⟨cs, q1, q2, q3, q4⟩ := hcp
      obtain ⟨sa, sc, rfl⟩ := own_shape q3
      clear q1 q2 q3 q4
      go_wp2_with fail
      go_ret
      exact ⟨_, _, rfl, Copied.done (F := fun w B (y : List Pt) c => ∃ v, c = [v] ∧ PtsIn w B d y v) (by rw [HN.out]; exact HCP.out) (by rw [HN.out]; exact hz) (fun h x c ⟨v, e, hv⟩ => ⟨v, e, h.pts hv⟩) (by simp), hB⟩

set_option maxHeartbeats 2000000 in
set_option maxRecDepth 100000 in
theorem nodes_copy (d : Nat) (hNC : NodeC d) (l : List Nd) (v : Value) (w : World) (hl : SlOf w w.heap.size 7 (NdC w w.heap.size d) l v) :
    Calls Tryz.prog 9 #[v] w fun e W' => ∃ a c, e = .returned (.slice a l.length c) ∧ SlOf (onlyW W' (freshB w.heap.size [] none)) W'.heap.size 7 (NdC (onlyW W' (freshB w.heap.size [] none)) W'.heap.size d) l (.slice a l.length c) ∧ Below w.heap.size w W' := by
  obtain ⟨a, cap, rfl, hz⟩ := hl.len
  obtain ⟨n, hn⟩ : ∃ n, l.length = n := ⟨_, rfl⟩
  rw [hn] at hl hz ⊢
  have HL := Lib.hid hl
  have HN := Lib.hid hn
  have HNC := Lib.hid hNC
  clear hl hn hNC
  go_enter Tryz.func9, Tryz.ntmps9
  go_wp2_with fail
  go_loopw [3, 8] (fun t i W => ∃ k : Nat, k ≤ n ∧ i = .int .i64 k ∧ Copied W w.heap.size [] 64 7 (fun w B => NdC w B d) l k t ∧ Below w.heap.size w W) (fun _ i _ => n - (intOf i).toNat)
  case atStart => exact ⟨0, Nat.zero_le _, rfl, Copied.start _ _ _ _ _ _ _, Below.refl _ _⟩
  case round =>
    obtain ⟨k, hk, rfl, hcp, hB⟩ := hrel
    have hBz := hB.size
    by_cases hlt : k < n
    · obtain ⟨x, hx⟩ : ∃ y, l[k]? = .some y := ⟨_, List.getElem?_eq_getElem (by rw [HN.out]; exact hlt)⟩
      have HX := Lib.hid hx
      obtain ⟨b, o, c, hi, hbB, hce, hC, _⟩ := HL.out.at 22 38 Tryz.underlying22 (by kernel_rfl) hx
      obtain ⟨a1, c1, a2, c2, a3, c3, a4, c4, a5, c5, rfl, _⟩ := hC.open
      obtain ⟨cs, q1, q2, q3, q4⟩ := hcp
      obtain ⟨sa, sc, rfl⟩ := own_shape q3
      have Q1 := Lib.hid q1
      have Q2 := Lib.hid q2
      have Q3 := Lib.hid q3
      have Q4 := Lib.hid q4
      have HRW : Hid (∀ b, (Value.slice sa k sc).ownBlock = some b → w.heap.size ≤ b ∧ b < wr.heap.size) := Lib.hid fun b e => World.ownsRow.lt Q3.out _ e
      have e0 := (hB.cell hbB).trans (hce 0 _ rfl)
      have e1 := (hB.cell hbB).trans (hce 1 _ rfl)
      have e2 := (hB.cell hbB).trans (hce 2 _ rfl)
      have e3 := (hB.cell hbB).trans (hce 3 _ rfl)
      have e4 := (hB.cell hbB).trans (hce 4 _ rfl)
      have e5 := (hB.cell hbB).trans (hce 5 _ rfl)
      have e6 := (hB.cell hbB).trans (hce 6 _ rfl)
      have hbB' := Nat.lt_of_lt_of_le hbB hB.size
      rw [Nat.add_zero] at e0
      have CW : Hid (∀ W, Below w.heap.size w W → _) := Lib.hid fun W (hW : Below w.heap.size w W) => HNC.out W x _ (hC.later hW)
      clear hx hce hC q1 q2 q3 q4
      go_wp2_with fail
      refine (CW.out _ (by repeat' (first | (with_reducible assumption) | (with_reducible exact Below.refl _ _) | (with_reducible refine below_drewN ?_ _) | (with_reducible refine below_bytes ?_ ?_ _) | (with_reducible refine Below.alloc ?_ ?_ _) | (with_reducible refine Below.drew ?_) | (with_reducible refine Below.setCell ?_ ?_ _) | go_size))).mono ?_
      rintro e w1 ⟨a1', c1', a2', c2', a3', c3', a4', c4', a5', c5', rfl, hp1, hb1⟩
      have HP1 := Lib.hid (later_ndc hp1)
      have hz1 := hb1.size
      simp only [World.size_alloc, World.size_setCell, World.size_drew, size_drewN] at hz1
      have hr1 : Below wr.heap.size wr w1 := (show Below wr.heap.size wr (wr.alloc _) from (by repeat' (first | (with_reducible assumption) | (with_reducible exact Below.refl _ _) | (with_reducible refine below_drewN ?_ _) | (with_reducible refine below_bytes ?_ ?_ _) | (with_reducible refine Below.alloc ?_ ?_ _) | (with_reducible refine Below.drew ?_) | (with_reducible refine Below.setCell ?_ ?_ _) | go_size))).trans (hb1.mono (by simp))
      clear hp1 e0 e1 e2 e3 e4 e5 e6
      go_wp2_with (at_builtin; go_must ((refine append_sl rfl _ _ 25 rfl w.heap.size 64 Tryz.underlying25 infoN14 rfl (by decide) (v := .slice sa k sc) (n := k) (xs := cs.flatten) rfl (own_below Q3.out (by repeat' (first | (with_reducible assumption) | (with_reducible exact Below.refl _ _) | (with_reducible refine below_drewN ?_ _) | (with_reducible refine below_bytes ?_ ?_ _) | (with_reducible refine Below.alloc ?_ ?_ _) | (with_reducible refine Below.drew ?_) | (with_reducible refine Below.setCell ?_ ?_ _) | go_size))) (m := 1) (news := [.int .i64 x.kind, .string x.name, .slice a1' x.assigns.length c1', .slice a2' x.words.length c2', .slice a3' x.redirs.length c3', .slice a4' x.lists.length c4', .slice a5' x.arms.length c5']) rfl (sl_made_at _ #[.int .i64 x.kind, .string x.name, .slice a1' x.assigns.length c1', .slice a2' x.words.length c2', .slice a3' x.redirs.length c3', .slice a4' x.lists.length c4', .slice a5' x.arms.length c5'] _ 1 7 rfl (by unfold maxLen; omega) (by simp)) (by omega) (by intro u hu; simp at hu; rcases hu with rfl | rfl | rfl | rfl | rfl | rfl | rfl <;> rfl) (by omega) (by simp; omega) ?_); intro g1 cap1 w5 hown hgrow hlie hglt; have HB5 := Lib.hid (Below.grown (B := w.heap.size) (a := w) (hB.trans (Below.mono (B := wr.heap.size) (by repeat' (first | (with_reducible assumption) | (with_reducible exact Below.refl _ _) | (with_reducible refine below_drewN ?_ _) | (with_reducible refine below_bytes ?_ ?_ _) | (with_reducible refine Below.alloc ?_ ?_ _) | (with_reducible refine Below.drew ?_) | (with_reducible refine Below.setCell ?_ ?_ _) | go_size)) hBz)) hgrow (by simp; omega) (fun k e => (HRW.out k e).1)); have HP5 := Lib.hid (Copied.push (F := fun w B => NdC w B d) (l := l) (x := x) hgrow hlie hown (fun h x c => h.ndc) (w := wr) (by repeat' (first | (with_reducible assumption) | (with_reducible exact Below.refl _ _) | (with_reducible refine below_drewN ?_ _) | (with_reducible refine below_bytes ?_ ?_ _) | (with_reducible refine Below.alloc ?_ ?_ _) | (with_reducible refine Below.drew ?_) | (with_reducible refine Below.setCell ?_ ?_ _) | go_size)) Q1.out Q2.out Q4.out HX.out rfl (HP1.out _ (by repeat' (first | (with_reducible assumption) | (with_reducible exact Below.refl _ _) | (with_reducible refine below_drewN ?_ _) | (with_reducible refine below_bytes ?_ ?_ _) | (with_reducible refine Below.alloc ?_ ?_ _) | (with_reducible refine Below.drew ?_) | (with_reducible refine Below.setCell ?_ ?_ _) | go_size)) _ _ _ (by simp; omega) (by simp) fun b e => by have := (HRW.out b e).2; simp; omega)); clear hown hgrow hlie hglt))
      go_roundw
      case rel => exact ⟨k + 1, by omega, by go_num, HP5.out, HB5.out⟩
      case measure => simp [intOf]; omega
    · obtain rfl : k = n := by omega
      have HCP := Lib.hid hcp
      obtain ⟨cs, q1, q2, q3, q4⟩ := hcp
      obtain ⟨sa, sc, rfl⟩ := own_shape q3
      clear q1 q2 q3 q4
      go_wp2_with fail
      go_ret
      exact ⟨_, _, rfl, Copied.done (F := fun w B => NdC w B d) (by rw [HN.out]; exact HCP.out) (by rw [HN.out]; exact hz) (fun h x c => h.ndc) (by simp), hB⟩
end Go.Proofs.YtnackmnoldkihaaGreatDoor
/-
  The walk of the copy of a redirection.
-/
namespace Go.Proofs.YtnackmnoldkihaaGreatDoor
open Go.RowKit

def RedirC (d : Nat) : Prop := ∀ (W : World) (r : Rd) (c : List Value), RdC W W.heap.size d r c →
  Calls Tryz.prog 53 #[.agg c.toArray] W fun e W' => ∃ a c', e = .returned (.agg #[.int .i64 r.fd, .string r.op, .string r.tag, .slice a r.word.length c']) ∧
    RdC (onlyW W' (freshB W.heap.size [] none)) W'.heap.size d r [.int .i64 r.fd, .string r.op, .string r.tag, .slice a r.word.length c'] ∧ Below W.heap.size W W'

set_option maxHeartbeats 2000000 in
set_option maxRecDepth 100000 in
theorem redir_copy (d : Nat) (hWC : WordC d) : RedirC d := by
  intro w r c hc
  obtain ⟨h1, h2, h3, yv, rfl, hp⟩ := hc
  obtain ⟨a1, c1, rfl, _⟩ := hp.shape
  have HP := Lib.hid hp
  have H1 := Lib.hid h1
  have H2 := Lib.hid h2
  have H3 := Lib.hid h3
  obtain ⟨X, hX⟩ : ∃ X, X = (w.alloc (.cells #[.int .i64 r.fd, .string r.op, .string r.tag, .slice a1 r.word.length c1] 31)).alloc (.cells #[.int .i64 0, .string ⟨#[]⟩, .string ⟨#[]⟩, .slice none 0 0] 100) := ⟨_, rfl⟩
  have hBX : Below w.heap.size w X := by rw [hX]; exact (by repeat' (first | (with_reducible assumption) | (with_reducible exact Below.refl _ _) | (with_reducible refine below_drewN ?_ _) | (with_reducible refine below_bytes ?_ ?_ _) | (with_reducible refine Below.alloc ?_ ?_ _) | (with_reducible refine Below.drew ?_) | (with_reducible refine Below.setCell ?_ ?_ _) | go_size))
  have hzX : X.heap.size = w.heap.size + 1 + 1 := by rw [hX]; simp
  have x0 : X.cell? ⟨w.heap.size, 0, none⟩ = some (.int .i64 r.fd) := by rw [hX]; simp
  have x1 : X.cell? ⟨w.heap.size, 1, none⟩ = some (.string r.op) := by rw [hX]; simp
  have x2 : X.cell? ⟨w.heap.size, 2, none⟩ = some (.string r.tag) := by rw [hX]; simp
  have x3 : X.cell? ⟨w.heap.size, 3, none⟩ = some (.slice a1 r.word.length c1) := by rw [hX]; simp
  have HY : Hid (Blk X (w.heap.size + 1) 100 #[.int .i64 0, .string ⟨#[]⟩, .string ⟨#[]⟩, .slice none 0 0]) := Lib.hid (by rw [hX]; exact Blk.at (by simp))
  have HX := Lib.hid hX
  have hgX : w.heap.size < X.heap.size := by omega
  have CW : Hid (∀ W, Below X.heap.size X W → Calls Tryz.prog 14 #[.slice a1 r.word.length c1] W fun e W' => ∃ a c, e = .returned (.slice a r.word.length c) ∧ (∀ W2 : World, W'.heap.size ≤ W2.heap.size → (∀ b o, X.heap.size ≤ b → W2.cell? ⟨b, o, none⟩ = W'.cell? ⟨b, o, none⟩) → PtsIn (onlyW W2 (freshB w.heap.size [] none)) W2.heap.size d r.word (.slice a r.word.length c)) ∧ Below X.heap.size X W' ∧ Below W.heap.size W W') :=
    Lib.hid fun W hW => (hWC W _ _ ((HP.out.below (hBX.trans (hW.mono hBX.size))).mono (Nat.le_trans hBX.size hW.size))).mono fun e W' ⟨a, c, h1, h2, h3⟩ => ⟨a, c, h1, fun W2 hz hk => (Kept.pts ⟨hz, fun b k1 k2 k3 k4 => ⟨⟨by have := hW.size; omega, by simp, by simp⟩, fun o => hk b o (by have := hW.size; omega)⟩⟩ h2), hW.trans (h3.mono hW.size), h3⟩
  clear hp hWC h1 h2 h3 hX
  go_enter Tryz.func53, Tryz.ntmps53
  go_upto_region 1 with fail
  rw [← HX.out]
  go_region_held3 (fun w' => w'.cell? ⟨w.heap.size, 0, none⟩ = some (.int .i64 r.fd) ∧ w'.cell? ⟨w.heap.size, 1, none⟩ = some (.string r.op) ∧ w'.cell? ⟨w.heap.size, 2, none⟩ = some (.string r.tag) ∧ w'.cell? ⟨w.heap.size, 3, none⟩ = some (.slice a1 r.word.length c1)) (go_keep)
    ((go_at_call 14; with_reducible refine (CW.out _ (by repeat' (first | (with_reducible assumption) | (with_reducible exact Below.refl _ _) | (with_reducible refine below_drewN ?_ _) | (with_reducible refine below_bytes ?_ ?_ _) | (with_reducible refine Below.alloc ?_ ?_ _) | (with_reducible refine Below.drew ?_) | (with_reducible refine Below.setCell ?_ ?_ _) | go_size))).mono ?_; rintro e w1 ⟨a2, c2, rfl, hp1, hb1, hc1⟩; have HP1 := Lib.hid hp1; clear hp1; have d0 := (hb1.cell hgX).trans x0; have d1 := (hb1.cell hgX).trans x1; have d2 := (hb1.cell hgX).trans x2; have d3 := (hb1.cell hgX).trans x3; have HYY := Lib.hid (HY.out.below hb1 (by omega)); have k0 := HYY.out.cell 0; have k1 := HYY.out.cell 1; have k2 := HYY.out.cell 2; have k3 := HYY.out.cell 3; have kl := HYY.out.lt; have kf0 := HYY.out.free 0; have kf1 := HYY.out.free 1; have kf2 := HYY.out.free 2; have kf3 := HYY.out.free 3; simp at k0 k1 k2 k3))
  have HBW : Hid (Below w.heap.size w w1) := Lib.hid (hBX.trans (hb1.mono hBX.size))
  clear hb1 hc1 d0 d1 d2 d3 x0 x1 x2 x3 k0 k1 k2 k3 kf0 kf1 kf2 kf3
  obtain ⟨V, hV⟩ : ∃ V, V = (((w1.setCell ⟨w.heap.size + 1, 0, none⟩ (.int .i64 r.fd)).setCell ⟨w.heap.size + 1, 1, none⟩ (.string r.op)).setCell ⟨w.heap.size + 1, 2, none⟩ (.string r.tag)).setCell ⟨w.heap.size + 1, 3, none⟩ (.slice a2 r.word.length c2) := ⟨_, rfl⟩
  have HKV : Hid (Blk V (w.heap.size + 1) 100 #[.int .i64 r.fd, .string r.op, .string r.tag, .slice a2 r.word.length c2]) := Lib.hid (by rw [hV]; exact (((HYY.out.put 0 _).put 1 _).put 2 _).put 3 _)
  have HPV : Hid (PtsIn (onlyW V (freshB w.heap.size [] none)) V.heap.size d r.word (.slice a2 r.word.length c2)) := Lib.hid (HP1.out V (by rw [hV]; simp) fun b o hb => by
    rw [hV]
    repeat rw [World.cell?_setCell_other _ _ _ _ (fun e => by injection e with e _; omega)])
  have HBV : Hid (Below w.heap.size w V) := Lib.hid (by rw [hV]; exact (((HBW.out.setCell (by simp) _).setCell (by simp) _).setCell (by simp) _).setCell (by simp) _)
  rw [← hV]
  clear hV
  have q0 := HKV.out.cell 0
  have q1 := HKV.out.cell 1
  have q2 := HKV.out.cell 2
  have q3 := HKV.out.cell 3
  have q4 := HKV.out.lt
  simp at q0 q1 q2 q3
  go_wp2_with fail
  refine bodyPost_ret (v := .agg #[.int .i64 r.fd, .string r.op, .string r.tag, .slice a2 r.word.length c2]) (by simp [results, Tryz.results53, go_sem, q0, q1, q2, q3]) rfl ?_
  exact ⟨_, _, rfl, ⟨H1.out, H2.out, H3.out, _, rfl, HPV.out⟩, HBV.out⟩
end Go.Proofs.YtnackmnoldkihaaGreatDoor
/-
  The copy of a command: its state on the way.
-/
namespace Go.Proofs.YtnackmnoldkihaaGreatDoor
open Go.RowKit

theorem infoA14 : (Tryz.prog.info? 98).map (fun i => (i.zero, i.size, i.bytes)) = some (some (.agg #[.string ByteArray.empty, .slice none 0 0]), 2, 40) := by kernel_rfl
theorem infoR14 : (Tryz.prog.info? 100).map (fun i => (i.zero, i.size, i.bytes)) = some (some (.agg #[.int .i64 0, .string ByteArray.empty, .string ByteArray.empty, .slice none 0 0]), 4, 64) := by kernel_rfl
theorem infoNs14 : (Tryz.prog.info? 25).map (fun i => (i.zero, i.size, i.bytes)) = some (some (.slice none 0 0), 1, 24) := by kernel_rfl
theorem infoM14 : (Tryz.prog.info? 92).map (fun i => (i.zero, i.size, i.bytes)) = some (some (.agg #[.slice none 0 0, .slice none 0 0]), 2, 48) := by kernel_rfl
theorem own_set {w : World} {base : Nat} {e : TypeId} {size : Nat} {v : Value} {n : Nat} {xs : List Value} (h : w.ownsRow base e size v n xs) {p : Addr} (hp : v.ownBlock ≠ some p.block) (u : Value) : (w.setCell p u).ownsRow base e size v n xs := by
  refine ⟨h.1, ?_⟩
  rcases h.2 with h2 | ⟨g, cap, cur, hv, hB, hg, r⟩
  · exact .inl h2
  · refine .inr ⟨g, cap, cur, hv, hB, ?_, r⟩
    rw [Below.heap_setCell w p u g (fun e => hp (by rw [hv, ← e]; rfl))]
    exact hg

/-- A command's copy on the way: the parameter, the result, the copy's box. -/
structure NSt (w : World) (pc : Array Value) (gx : Nat) (k : Int) (nm : ByteArray) (av wv rv lv mv : Value) (W : World) : Prop where
  par : Blk W w.heap.size 38 pc
  res : Blk W (w.heap.size + 1) 64 #[.int .i64 0, .string ⟨#[]⟩, .slice none 0 0, .slice none 0 0, .slice none 0 0, .slice none 0 0, .slice none 0 0]
  box : Blk W gx 64 #[.int .i64 k, .string nm, av, wv, rv, lv, mv]
  gt : w.heap.size + 1 < gx
  bel : Below w.heap.size w W
section
variable {w W W' : World} {pc : Array Value} {gx : Nat} {k : Int} {nm : ByteArray} {av wv rv lv mv : Value}
theorem NSt.below (h : NSt w pc gx k nm av wv rv lv mv W) (hb : Below W.heap.size W W') : NSt w pc gx k nm av wv rv lv mv W' :=
  ⟨h.par.below hb h.par.lt, h.res.below hb h.res.lt, h.box.below hb h.box.lt, h.gt, h.bel.trans (hb.mono h.bel.size)⟩
theorem NSt.grown (h : NSt w pc gx k nm av wv rv lv mv W) {row : Option Nat} (hg : W.grownBy W' row) (hr : ∀ b, row = some b → gx < b) : NSt w pc gx k nm av wv rv lv mv W' := by
  have h0 := h.gt
  exact ⟨h.par.grown hg fun e => by have := hr _ e; omega, h.res.grown hg fun e => by have := hr _ e; omega, h.box.grown hg fun e => by have := hr _ e; omega, h.gt,
    h.bel.grown hg h.bel.size fun b e => by have := hr _ e; omega⟩
theorem NSt.put (h : NSt w pc gx k nm av wv rv lv mv W) (i : Nat) (u : Value) {av' wv' rv' lv' mv' : Value} (he : (#[.int .i64 k, .string nm, av, wv, rv, lv, mv] : Array Value).setIfInBounds i u = #[.int .i64 k, .string nm, av', wv', rv', lv', mv']) : NSt w pc gx k nm av' wv' rv' lv' mv' (W.setCell ⟨gx, i, none⟩ u) := by
  have h0 := h.gt
  exact ⟨h.par.far (by simp; omega) u, h.res.far (by simp; omega) u, by rw [← he]; exact h.box.put i u, h.gt, h.bel.setCell (by simp; omega) u⟩
end
/-- What has been copied so far. -/
def Dn (d : Nat) (x : Nd) (n : Nat) (base : Nat) (xs : List Nat) (W : World) (row : Option Nat) (av wv rv lv : Value) : Prop :=
  WdsIn (onlyW W (freshB base xs row)) W.heap.size d x.words wv ∧ (1 < n → AssIn (onlyW W (freshB base xs row)) W.heap.size d x.assigns av) ∧
  (2 < n → RdsIn (onlyW W (freshB base xs row)) W.heap.size d x.redirs rv) ∧ (3 < n → LssIn (onlyW W (freshB base xs row)) W.heap.size d x.lists lv)
theorem Dn.keep {d : Nat} {x : Nd} {n : Nat} {base : Nat} {xs : List Nat} {W W' : World} {row row' : Option Nat} {av wv rv lv : Value} (h : Dn d x n base xs W row av wv rv lv) (k : Kept W base xs row W.heap.size W' base xs row' W'.heap.size) : Dn d x n base xs W' row' av wv rv lv :=
  ⟨k.wds h.1, fun e => k.ass (h.2.1 e), fun e => k.rds (h.2.2.1 e), fun e => k.lss (h.2.2.2 e)⟩
/-- Behind an append of one copy. -/
structure Pushed {α : Type} (w : World) (pc : Array Value) (gx : Nat) (x : Nd) (d n : Nat) (e : TypeId) (size : Nat) (F : World → Nat → α → List Value → Prop) (l : List α) (k : Nat) (v : Value) (av wv rv lv mv : Value) (W : World) : Prop where
  st : NSt w pc gx x.kind x.name av wv rv lv mv W
  cp : Copied W (w.heap.size + 2) [gx] e size F l k v
  row : ∀ b, v.ownBlock = some b → gx < b
  dn : Dn d x n (w.heap.size + 2) [gx] W v.ownBlock av wv rv lv
section
variable {α : Type} {w : World} {pc : Array Value} {gx : Nat} {x : Nd} {d n : Nat} {e : TypeId} {size : Nat} {F : World → Nat → α → List Value → Prop} {l : List α} {k : Nat} {v : Value} {av wv rv lv mv : Value} {W w4 w5 : World}
theorem Pushed.push (h : Pushed w pc gx x d n e size F l k v av wv rv lv mv W) (hF : CKeeps F) {y : α} {c : List Value} {g cap : Nat} {cs : List (List Value)} (hg : w4.grownBy w5 v.ownBlock) (hr : v.ownBlock = some g ∨ g = w4.heap.size)
    (ho : w5.ownsRow (w.heap.size + 2) e size (.slice (some ⟨g, 0, none⟩) (k + 1) cap) (k + 1) (cs.flatten ++ c)) (hb : Below W.heap.size W w4) (hl : cs.length = k) (hs : ∀ c ∈ cs, c.length = size)
    (hall : ∀ (i : Nat) (x : α) (c : List Value), i < k → l[i]? = some x → cs[i]? = some c → F (onlyW W (freshB (w.heap.size + 2) [gx] v.ownBlock)) W.heap.size x c) (hy : l[k]? = some y) (hc : c.length = size)
    (hnew : F (onlyW w4 (freshB (w.heap.size + 2) [gx] v.ownBlock)) w4.heap.size y c) : Pushed w pc gx x d n e size F l (k + 1) (.slice (some ⟨g, 0, none⟩) (k + 1) cap) av wv rv lv mv w5 := by
  have hz := hb.size
  have hlt := h.st.box.lt
  have hgt := h.st.gt
  refine ⟨(h.st.below hb).grown hg h.row, Copied.push hg hr ho hF hb hl hs hall hy hc hnew, fun b e => ?_, ?_⟩
  · obtain rfl : g = b := Option.some.inj e
    rcases hr with hr | hr
    · exact h.row _ hr
    · omega
  · exact (h.dn.keep (Kept.below hb (Nat.le_refl _))).keep (Kept.grown hg hr hg.size)
/-- Behind the store of the row into the box. -/
theorem Pushed.put (h : Pushed w pc gx x d n e size F l k v av wv rv lv mv W) (hF : CKeeps F) (i : Nat) (u : Value) {av' wv' rv' lv' mv' : Value} (he : (#[.int .i64 x.kind, .string x.name, av, wv, rv, lv, mv] : Array Value).setIfInBounds i u = #[.int .i64 x.kind, .string x.name, av', wv', rv', lv', mv'])
    (hd : ∀ W, Dn d x n (w.heap.size + 2) [gx] W v.ownBlock av wv rv lv → Dn d x n (w.heap.size + 2) [gx] W v.ownBlock av' wv' rv' lv') : Pushed w pc gx x d n e size F l k v av' wv' rv' lv' mv' (W.setCell ⟨gx, i, none⟩ u) := by
  refine ⟨h.st.put i u he, h.cp.moved hF (Kept.set (p := ⟨gx, i, none⟩) (by simp) u) fun us ho => own_set ho (fun e => ?_) u, h.row, hd _ (h.dn.keep (Kept.set (p := ⟨gx, i, none⟩) (by simp) u))⟩
  have := h.row _ e
  simp at this
theorem Pushed.below (h : Pushed w pc gx x d n e size F l k v av wv rv lv mv W) (hF : CKeeps F) (hb : Below W.heap.size W w5) : Pushed w pc gx x d n e size F l k v av wv rv lv mv w5 :=
  ⟨h.st.below hb, h.cp.moved hF (Kept.below hb (Nat.le_refl _)) fun us ho => own_below ho hb, h.row, h.dn.keep (Kept.below hb (Nat.le_refl _))⟩
/-- All copied. -/
theorem Pushed.done (h : Pushed w pc gx x d n e size F l l.length v av wv rv lv mv W) (hF : CKeeps F) (hl : l.length ≤ bigN) : SlOf (onlyW W (freshB (w.heap.size + 2) [gx] none)) W.heap.size size (F (onlyW W (freshB (w.heap.size + 2) [gx] none)) W.heap.size) l v ∧ Dn d x n (w.heap.size + 2) [gx] W none av wv rv lv :=
  ⟨h.cp.done hl hF fun b e hb => by have := h.row b e; simp at hb; omega, h.dn.keep Kept.row⟩
end
theorem keeps_as (d : Nat) : CKeeps (fun w B => AsC w B d) := fun h _ _ hk => h.asc hk
theorem keeps_rd (d : Nat) : CKeeps (fun w B => RdC w B d) := fun h _ _ hk => h.rdc hk
theorem keeps_ar (d : Nat) : CKeeps (fun w B => ArC w B d) := fun h _ _ hk => h.arc hk
theorem keeps_ls (d : Nat) : CKeeps (fun w B (y : List Nd) c => ∃ v, c = [v] ∧ NdsIn w B d y v) := fun h _ _ ⟨v, e, hk⟩ => ⟨v, e, h.nds hk⟩
end Go.Proofs.YtnackmnoldkihaaGreatDoor
/-
  The walk of the copy of a command.
-/
namespace Go.Proofs.YtnackmnoldkihaaGreatDoor
open Go.RowKit

theorem blk_after (X : World) (cs : Array Value) (t : TypeId) {w1 : World} (h : Below (World.drew (X.alloc (.cells cs t))).heap.size (World.drew (X.alloc (.cells cs t))) w1) : Blk w1 X.heap.size t cs :=
  Blk.below (w := World.drew (X.alloc (.cells cs t))) (B := (World.drew (X.alloc (.cells cs t))).heap.size) (Blk.new X t cs) h (by simp)
set_option maxHeartbeats 40000000 in
set_option maxRecDepth 100000 in
theorem node_copy (d : Nat) (hWC : WordC d) (hNC : NodesC d) : NodeC d := by
  intro w x c hc
  have HC := Lib.hid hc
  obtain ⟨a1, c1, a2, c2, a3, c3, a4, c4, a5, c5, rfl, hxz, ⟨hn1, hn2, hn3, hn4, hn5⟩, hA, hW, hR, hLs, hM⟩ := hc.open
  have HWS := Lib.hid (words_copy d hWC)
  have HRC := Lib.hid (redir_copy d hWC)
  have HWC := Lib.hid hWC
  have HNC := Lib.hid hNC
  have HXZ := Lib.hid hxz
  obtain ⟨n1, hl1⟩ : ∃ n, x.assigns.length = n := ⟨_, rfl⟩
  obtain ⟨n2, hl2⟩ : ∃ n, x.words.length = n := ⟨_, rfl⟩
  obtain ⟨n3, hl3⟩ : ∃ n, x.redirs.length = n := ⟨_, rfl⟩
  obtain ⟨n4, hl4⟩ : ∃ n, x.lists.length = n := ⟨_, rfl⟩
  obtain ⟨n5, hl5⟩ : ∃ n, x.arms.length = n := ⟨_, rfl⟩
  rw [hl1] at hn1 hA ⊢
  rw [hl2] at hn2 hW ⊢
  rw [hl3] at hn3 hR ⊢
  rw [hl4] at hn4 hLs ⊢
  rw [hl5] at hn5 hM ⊢
  obtain ⟨pc, hpc⟩ : ∃ pc : Array Value, pc = #[.int .i64 x.kind, .string x.name, .slice a1 n1 c1, .slice a2 n2 c2, .slice a3 n3 c3, .slice a4 n4 c4, .slice a5 n5 c5] := ⟨_, rfl⟩
  have HPC := Lib.hid hpc
  have HA := Lib.hid hA
  have HW := Lib.hid hW
  have HR := Lib.hid hR
  have HLS := Lib.hid hLs
  have HM := Lib.hid hM
  have N1 := Lib.hid hl1
  have N2 := Lib.hid hl2
  have N3 := Lib.hid hl3
  have N4 := Lib.hid hl4
  have N5 := Lib.hid hl5
  clear hc hWC hNC hxz hl1 hl2 hl3 hl4 hl5 hA hW hR hLs hM hpc
  obtain ⟨X, hX⟩ : ∃ X, X = (w.alloc (.cells #[.int .i64 x.kind, .string x.name, .slice a1 n1 c1, .slice a2 n2 c2, .slice a3 n3 c3, .slice a4 n4 c4, .slice a5 n5 c5] 38)).alloc (.cells #[.int .i64 0, .string ⟨#[]⟩, .slice none 0 0, .slice none 0 0, .slice none 0 0, .slice none 0 0, .slice none 0 0] 64) := ⟨_, rfl⟩
  have hBX : Below w.heap.size w X := by rw [hX]; exact (by repeat' (first | (with_reducible assumption) | (with_reducible exact Below.refl _ _) | (with_reducible refine below_drewN ?_ _) | (with_reducible refine below_bytes ?_ ?_ _) | (with_reducible refine Below.alloc ?_ ?_ _) | (with_reducible refine Below.drew ?_) | (with_reducible refine Below.setCell ?_ ?_ _) | go_size))
  have hzX : X.heap.size = w.heap.size + 1 + 1 := by rw [hX]; simp
  have x0 : X.cell? ⟨w.heap.size, 0, none⟩ = some (.int .i64 x.kind) := by rw [hX]; simp
  have x1 : X.cell? ⟨w.heap.size, 1, none⟩ = some (.string x.name) := by rw [hX]; simp
  have x3 : X.cell? ⟨w.heap.size, 3, none⟩ = some (.slice a2 n2 c2) := by rw [hX]; simp
  have hgX : w.heap.size < X.heap.size := by omega
  have hgX1 : w.heap.size + 1 < X.heap.size := by omega
  have hneX : X.heap.size ≠ w.heap.size := by omega
  have HZX := Lib.hid hzX
  clear hzX
  have HY0 : Hid (Blk X w.heap.size 38 pc) := Lib.hid (by rw [hX, HPC.out]; exact (Blk.at rfl).alloc _)
  have HY1 : Hid (Blk X (w.heap.size + 1) 64 #[.int .i64 0, .string ⟨#[]⟩, .slice none 0 0, .slice none 0 0, .slice none 0 0, .slice none 0 0, .slice none 0 0]) := Lib.hid (by rw [hX]; exact Blk.at (by simp))
  have HX := Lib.hid hX
  have HZX0 := Lib.hid (show X.heap.size = w.heap.size + 1 + 1 by rw [hX]; simp)
  have CWS : Hid (∀ W, Below X.heap.size X W → Calls Tryz.prog 52 #[.slice a2 n2 c2] W fun e W' => ∃ a c, e = .returned (.slice a n2 c) ∧ (∀ W2 : World, W'.heap.size ≤ W2.heap.size → ∀ g, (∀ b o, b < W'.heap.size → b ≠ g → W2.cell? ⟨b, o, none⟩ = W'.cell? ⟨b, o, none⟩) → (g < W.heap.size ∨ W'.heap.size ≤ g) → WdsIn (onlyW W2 (freshB (w.heap.size + 2) [g] none)) W2.heap.size d x.words (.slice a n2 c)) ∧ Below X.heap.size X W' ∧ Below W.heap.size W W') :=
    Lib.hid fun W hW => (HWS.out W _ _ (WdsIn.keep HW.out fun size n v xs hs => (hs.below (hBX.trans (hW.mono hBX.size))).mono (Nat.le_trans hBX.size hW.size))).mono fun e W' ⟨a, c, h1, h2, h3⟩ => by
      rw [N2.out] at h1 h2
      exact ⟨a, c, h1, fun W2 hz g hk hg => Kept.wds ⟨hz, fun b k1 k2 k3 k4 => by
        have hbg : b ≠ g := by omega
        exact ⟨⟨by have := hW.size; have := HZX0.out; omega, by simpa using hbg, by simp⟩, fun o => hk b o k1 hbg⟩⟩ h2, hW.trans (h3.mono hW.size), h3⟩
  clear hX
  go_enter Tryz.func38, Tryz.ntmps38
  go_upto_region 1 with fail
  rw [← HX.out]
  go_cut [3] (fun s3 W => ∃ gx a c, s3 = .pointer (some ⟨gx, 0, none⟩) ∧ Pushed w pc gx x d 1 98 2 (fun w B => AsC w B d) x.assigns 0 (.slice none 0 0) (.slice none 0 0) (.slice a n2 c) (.slice none 0 0) (.slice none 0 0) (.slice none 0 0) W)
  case first =>
    go_region_held3 (fun w' => w'.cell? ⟨w.heap.size, 0, none⟩ = some (.int .i64 x.kind) ∧ w'.cell? ⟨w.heap.size, 1, none⟩ = some (.string x.name) ∧ w'.cell? ⟨w.heap.size, 3, none⟩ = some (.slice a2 n2 c2)) (go_keep)
      ((go_at_call 52; with_reducible refine (CWS.out _ (by repeat' (first | (with_reducible assumption) | (with_reducible exact Below.refl _ _) | (with_reducible refine below_drewN ?_ _) | (with_reducible refine below_bytes ?_ ?_ _) | (with_reducible refine Below.alloc ?_ ?_ _) | (with_reducible refine Below.drew ?_) | (with_reducible refine Below.setCell ?_ ?_ _) | go_size))).mono ?_; rintro e w1 ⟨aw, cw, rfl, hp1, hb1, hc1⟩; have HP1 := Lib.hid hp1; clear hp1; have hne1 : w1.heap.size ≠ w.heap.size := (by have := hb1.size; omega); have d0 := (hb1.cell hgX).trans x0; have d1 := (hb1.cell hgX).trans x1; have d3 := (hb1.cell hgX).trans x3; (first | (have HNO : Below X.drew.heap.size X.drew w1 := hc1; clear HNO) | (have HBB := Lib.hid (blk_after _ _ _ hc1); have k0 := HBB.out.cell 0; have k1 := HBB.out.cell 1; have k2 := HBB.out.cell 2; have k3 := HBB.out.cell 3; have k4 := HBB.out.cell 4; have k5 := HBB.out.cell 5; have k6 := HBB.out.cell 6; have kf0 := HBB.out.free 0; have kf1 := HBB.out.free 1; have kf2 := HBB.out.free 2; have kf3 := HBB.out.free 3; have kf4 := HBB.out.free 4; have kf5 := HBB.out.free 5; have kf6 := HBB.out.free 6; simp at k0 k1 k2 k3 k4 k5 k6 kf0 kf1 kf2 kf3 kf4 kf5 kf6))))
    · clear d0 d1 d3 hne1
      have hz1 := hb1.size
      have HB1 := Lib.hid hb1
      go_wp2_with fail
      go_meet
      · have hbV : Below X.heap.size X (w1.alloc (.cells #[.int .i64 x.kind, .string x.name, .slice none 0 0, .slice aw n2 cw, .slice none 0 0, .slice none 0 0, .slice none 0 0] 64)) := HB1.out.alloc hz1 _
        refine ⟨_, aw, cw, rfl, ⟨HY0.out.below hbV hgX, HY1.out.below hbV hgX1, Blk.new _ _ _, by omega, hBX.trans (hbV.mono hBX.size)⟩, Copied.start _ _ _ _ _ _ _, fun b e => by simp [Value.ownBlock] at e, HP1.out _ (by simp) _ (fun b o hb _ => (Below.alloc (Below.refl w1.heap.size w1) (Nat.le_refl _) _).cell (p := ⟨b, o, none⟩) hb) (.inr (Nat.le_refl _)), fun e => absurd e (by omega), fun e => absurd e (by omega), fun e => absurd e (by omega)⟩
    · clear d0 d1 d3 hne1 k0 k1 k2 k3 k4 k5 k6 kf0 kf1 kf2 kf3 kf4 kf5 kf6
      have HB1 := Lib.hid hb1
      have HC1 := Lib.hid hc1
      clear hb1 hc1
      go_wp2_with fail
      go_meet
      · have hbV : Below X.heap.size X (((((((w1.setCell ⟨X.heap.size, 0, none⟩ (.int .i64 x.kind)).setCell ⟨X.heap.size, 1, none⟩ (.string x.name)).setCell ⟨X.heap.size, 2, none⟩ (.slice none 0 0)).setCell ⟨X.heap.size, 3, none⟩ (.slice aw n2 cw)).setCell ⟨X.heap.size, 4, none⟩ (.slice none 0 0)).setCell ⟨X.heap.size, 5, none⟩ (.slice none 0 0)).setCell ⟨X.heap.size, 6, none⟩ (.slice none 0 0)) :=
          ((((((HB1.out.setCell (by simp) _).setCell (by simp) _).setCell (by simp) _).setCell (by simp) _).setCell (by simp) _).setCell (by simp) _).setCell (by simp) _
        refine ⟨_, aw, cw, rfl, ⟨HY0.out.below hbV hgX, HY1.out.below hbV hgX1, ((((((HBB.out.put 0 _).put 1 _).put 2 _).put 3 _).put 4 _).put 5 _).put 6 _, by omega, hBX.trans (hbV.mono hBX.size)⟩, Copied.start _ _ _ _ _ _ _, fun b e => by simp [Value.ownBlock] at e, HP1.out _ (by simp) _ (fun b o hb hne => ?_) (.inl (by simp)), fun e => absurd e (by omega), fun e => absurd e (by omega), fun e => absurd e (by omega)⟩
        repeat rw [World.cell?_setCell_other _ _ _ _ (fun e => by injection e with e _; exact hne e.symm)]
  case rest =>
    obtain ⟨gx, aw, cw, rfl, hps⟩ := hcut
    have HPS := Lib.hid hps
    clear hps x0 x1 x3 hgX hgX1 hneX hBX
    have HPR : Hid (Blk wc w.heap.size 38 #[.int .i64 x.kind, .string x.name, .slice a1 n1 c1, .slice a2 n2 c2, .slice a3 n3 c3, .slice a4 n4 c4, .slice a5 n5 c5]) := Lib.hid (by rw [← HPC.out]; exact HPS.out.st.par)
    have hB := HPS.out.st.bel
    have hBz := hB.size
    have p0 := HPR.out.cell 0
    have p1 := HPR.out.cell 1
    have p2 := HPR.out.cell 2
    have p3 := HPR.out.cell 3
    have p4 := HPR.out.cell 4
    have p5 := HPR.out.cell 5
    have p6 := HPR.out.cell 6
    have pl := HPR.out.lt
    simp at p0 p1 p2 p3 p4 p5 p6
    go_wp2_with fail
    go_loopw [23] (fun i W => ∃ (k : Nat) (sa : Option Addr) (sc : Nat), k ≤ n1 ∧ i = .int .i64 k ∧ Pushed w pc gx x d 1 98 2 (fun w B => AsC w B d) x.assigns k (.slice sa k sc) (.slice sa k sc) (.slice aw n2 cw) (.slice none 0 0) (.slice none 0 0) (.slice none 0 0) W) (fun i _ => n1 - (intOf i).toNat)
    case atStart => exact ⟨0, none, 0, Nat.zero_le _, rfl, HPS.out⟩
    case round =>
      clear p0 p1 p2 p3 p4 p5 p6 pl hB hBz
      obtain ⟨k, sa, sc, hk, rfl, hps⟩ := hrel
      have HPS := Lib.hid hps
      clear hps
      have HPR : Hid (Blk wr w.heap.size 38 #[.int .i64 x.kind, .string x.name, .slice a1 n1 c1, .slice a2 n2 c2, .slice a3 n3 c3, .slice a4 n4 c4, .slice a5 n5 c5]) := Lib.hid (by rw [← HPC.out]; exact HPS.out.st.par)
      have hB := HPS.out.st.bel
      have hBz := hB.size
      have p0 := HPR.out.cell 0
      have p1 := HPR.out.cell 1
      have p2 := HPR.out.cell 2
      have p3 := HPR.out.cell 3
      have p4 := HPR.out.cell 4
      have p5 := HPR.out.cell 5
      have p6 := HPR.out.cell 6
      have pl := HPR.out.lt
      simp at p0 p1 p2 p3 p4 p5 p6
      by_cases hlt : k < n1
      · obtain ⟨y, hy⟩ : ∃ y, x.assigns[k]? = .some y := ⟨_, List.getElem?_eq_getElem (by rw [N1.out]; exact hlt)⟩
        have HYK := Lib.hid hy
        obtain ⟨b, o, c, hi, hbB, hce, ⟨hnz, yv, rfl, hyp⟩, _⟩ := HA.out.at 33 94 Tryz.underlying33 (by kernel_rfl) hy
        obtain ⟨a6, c6, rfl, _⟩ := hyp.shape
        have HNZ := Lib.hid hnz
        have HYP := Lib.hid hyp
        have e0 := (hB.cell hbB).trans (hce 0 _ rfl)
        have e1 := (hB.cell hbB).trans (hce 1 _ rfl)
        have hbB' := Nat.lt_of_lt_of_le hbB hB.size
        rw [Nat.add_zero] at e0
        obtain ⟨cs, q1, q2, q3, q4⟩ := HPS.out.cp
        have Q1 := Lib.hid q1
        have Q2 := Lib.hid q2
        have Q3 := Lib.hid q3
        have Q4 := Lib.hid q4
        clear q1 q2 q3 q4
        clear hy hce hyp hnz
        go_upto_region 5 with fail
        obtain ⟨Y, hY⟩ : ∃ Y, Y = wr.alloc (.cells #[.string y.name, .slice a6 y.word.length c6] 94) := ⟨_, rfl⟩
        have y0 : Y.cell? ⟨wr.heap.size, 0, none⟩ = some (.string y.name) := by rw [hY]; simp
        have y1 : Y.cell? ⟨wr.heap.size, 1, none⟩ = some (.slice a6 y.word.length c6) := by rw [hY]; simp
        have HBY : Hid (Below wr.heap.size wr Y) := Lib.hid (by rw [hY]; exact (by repeat' (first | (with_reducible assumption) | (with_reducible exact Below.refl _ _) | (with_reducible refine below_drewN ?_ _) | (with_reducible refine below_bytes ?_ ?_ _) | (with_reducible refine Below.alloc ?_ ?_ _) | (with_reducible refine Below.drew ?_) | (with_reducible refine Below.setCell ?_ ?_ _) | go_size)))
        have hgY : wr.heap.size < Y.heap.size := by rw [hY]; simp
        have hgxr := HPS.out.st.box.lt
        have hgt := HPS.out.st.gt
        have hgxY : gx < Y.heap.size := by omega
        have HBOX := Lib.hid (HPS.out.st.box.below HBY.out hgxr)
        have bq := HBOX.out.cell 2
        have bf := HBOX.out.free 2
        simp at bq
        rw [← hY]
        clear hY
        have hBY : Below w.heap.size w Y := hB.trans (HBY.out.mono hBz)
        have HRW : Hid (∀ b, (Value.slice sa k sc).ownBlock = some b → b < Y.heap.size) := Lib.hid fun b e => by
          have := (World.ownsRow.lt Q3.out _ e).2
          omega
        have CW : Hid (∀ W, Below Y.heap.size Y W → Calls Tryz.prog 14 #[.slice a6 y.word.length c6] W fun e W' => ∃ a c, e = .returned (.slice a y.word.length c) ∧ (∀ W2, Below W'.heap.size W' W2 → ∀ g, (∀ b, g = some b → b < Y.heap.size) → PtsIn (onlyW W2 (freshB (w.heap.size + 2) [gx] g)) W2.heap.size d y.word (.slice a y.word.length c)) ∧ Below Y.heap.size Y W' ∧ Below W.heap.size W W') :=
          Lib.hid fun W hW => (HWC.out W _ _ ((HYP.out.below (hBY.trans (hW.mono hBY.size))).mono (Nat.le_trans hBY.size hW.size))).mono fun e W' ⟨a, c, h1, h2, h3⟩ =>
            ⟨a, c, h1, fun W2 hb g hg => later_pts h2 W2 hb _ [gx] g (by have := hW.size; omega) (by have := hW.size; simp; omega) fun b e => Nat.lt_of_lt_of_le (hg b e) hW.size, hW.trans (h3.mono hW.size), h3⟩
        clear e0 e1 hi p0 p1 p2 p3 p4 p5 p6 pl
        go_region_law (first
          | (go_simp; go_at_call 14; with_reducible refine (CW.out _ (by repeat' (first | (with_reducible assumption) | (with_reducible exact Below.refl _ _) | (with_reducible refine below_drewN ?_ _) | (with_reducible refine below_bytes ?_ ?_ _) | (with_reducible refine Below.alloc ?_ ?_ _) | (with_reducible refine Below.drew ?_) | (with_reducible refine Below.setCell ?_ ?_ _) | go_size))).mono ?_; rintro e w1 ⟨av, cv, rfl, hq1, hb1, hc1⟩; have d0 := (hb1.cell hgY).trans y0; have d1 := (hb1.cell hgY).trans y1;
             have hs1 := hb1.size; have hgx1 : gx < w1.heap.size := Nat.lt_of_lt_of_le hgxY hs1; have hz1 := hc1.size; (try simp only [World.size_alloc, World.size_setCell, World.size_drew, size_drewN] at hz1); have hr1 : Below wr.heap.size wr w1 := HBY.out.trans (hb1.mono HBY.out.size); have HQ1 := Lib.hid hq1; clear hq1; have gq1 := (hb1.cell (p := ⟨gx, 2, none⟩) hgxY).trans bq; have gf1 := (hb1.frozen (p := ⟨gx, 2, none⟩) hgxY).trans bf
             )
          |
            (refine step_append_sl rfl _ _ 58 rfl (w.heap.size + 2) 98 Tryz.underlying58 infoA14 rfl (by decide) (v := .slice sa k sc) (n := k) (xs := cs.flatten) rfl (own_below Q3.out (by repeat' (first | (with_reducible assumption) | (with_reducible exact Below.refl _ _) | (with_reducible refine below_drewN ?_ _) | (with_reducible refine below_bytes ?_ ?_ _) | (with_reducible refine Below.alloc ?_ ?_ _) | (with_reducible refine Below.drew ?_) | (with_reducible refine Below.setCell ?_ ?_ _) | go_size))) (m := 1) (news := [.string y.name, .slice av y.word.length cv]) rfl (sl_made_at _ #[.string y.name, .slice av y.word.length cv] _ 1 2 rfl (by unfold maxLen; omega) (by simp)) (by omega) (by intro u hu; simp at hu; rcases hu with rfl | rfl <;> rfl) (by omega) (by simp; omega) ?_; intro g1 cap1 w5 hown hgrow hlie hglt; have HP5 := Lib.hid (HPS.out.push (keeps_as d) hgrow hlie hown (by repeat' (first | (with_reducible assumption) | (with_reducible exact Below.refl _ _) | (with_reducible refine below_drewN ?_ _) | (with_reducible refine below_bytes ?_ ?_ _) | (with_reducible refine Below.alloc ?_ ?_ _) | (with_reducible refine Below.drew ?_) | (with_reducible refine Below.setCell ?_ ?_ _) | go_size)) Q1.out Q2.out Q4.out HYK.out rfl ⟨HNZ.out, _, rfl, HQ1.out _ (by repeat' (first | (with_reducible assumption) | (with_reducible exact Below.refl _ _) | (with_reducible refine below_drewN ?_ _) | (with_reducible refine below_bytes ?_ ?_ _) | (with_reducible refine Below.alloc ?_ ?_ _) | (with_reducible refine Below.drew ?_) | (with_reducible refine Below.setCell ?_ ?_ _) | go_size)) _ HRW.out⟩); have hq5 := HP5.out.st.box.cell 2; have hf5 := HP5.out.st.box.free 2; simp at hq5; clear hown hgrow hlie hglt)
            )
        all_goals
          go_wp2_with fail
          go_roundw
          case rel => exact ⟨k + 1, _, _, by omega, by go_num, HP5.out.put (keeps_as d) 2 _ rfl fun W h => ⟨h.1, fun e => absurd e (by omega), fun e => absurd e (by omega), fun e => absurd e (by omega)⟩⟩
          case measure => simp [intOf]; omega
      · obtain rfl : n1 = k := by omega
        have HD := Lib.hid (Pushed.done (l := x.assigns) (by rw [N1.out]; exact HPS.out) (keeps_as d) (by rw [N1.out]; exact hn1))
        obtain ⟨va, hva⟩ : ∃ v, v = Value.slice sa n1 sc := ⟨_, rfl⟩
        have HVa : Hid (∃ a c, va = Value.slice a n1 c) := Lib.hid ⟨_, _, hva⟩
        have HPS2 : Hid (Pushed w pc gx x d 2 100 4 (fun w B => RdC w B d) x.redirs 0 (.slice none 0 0) (.slice sa n1 sc) (.slice aw n2 cw) (.slice none 0 0) (.slice none 0 0) (.slice none 0 0) wr) :=
          Lib.hid ⟨HPS.out.st, Copied.start _ _ _ _ _ _ _, fun b e => by simp [Value.ownBlock] at e, HD.out.2.1, fun _ => HD.out.1, fun e => absurd e (by omega), fun e => absurd e (by omega)⟩
        clear HPS HD
        rw [← hva] at HPS2
        clear hva
        have HPS := HPS2
        clear HPS2
        go_wp2_with fail
        clear p0 p1 p2 p3 p4 p5 p6 pl hB hBz
        go_loopw [42] (fun i W => ∃ (k2 : Nat) (sa2 : Option Addr) (sc2 : Nat), k2 ≤ n3 ∧ i = .int .i64 k2 ∧ Pushed w pc gx x d 2 100 4 (fun w B => RdC w B d) x.redirs k2 (.slice sa2 k2 sc2) va (.slice aw n2 cw) (.slice sa2 k2 sc2) (.slice none 0 0) (.slice none 0 0) W) (fun i _ => n3 - (intOf i).toNat)
        case atStart => exact ⟨0, none, 0, Nat.zero_le _, rfl, HPS.out⟩
        case round =>
          obtain ⟨k, sa, sc, hk, rfl, hps⟩ := hrel
          have HPS := Lib.hid hps
          clear hps
          have HPR : Hid (Blk wr w.heap.size 38 #[.int .i64 x.kind, .string x.name, .slice a1 n1 c1, .slice a2 n2 c2, .slice a3 n3 c3, .slice a4 n4 c4, .slice a5 n5 c5]) := Lib.hid (by rw [← HPC.out]; exact HPS.out.st.par)
          have hB := HPS.out.st.bel
          have hBz := hB.size
          have p0 := HPR.out.cell 0
          have p1 := HPR.out.cell 1
          have p2 := HPR.out.cell 2
          have p3 := HPR.out.cell 3
          have p4 := HPR.out.cell 4
          have p5 := HPR.out.cell 5
          have p6 := HPR.out.cell 6
          have pl := HPR.out.lt
          simp at p0 p1 p2 p3 p4 p5 p6
          by_cases hlt : k < n3
          · obtain ⟨y, hy⟩ : ∃ y, x.redirs[k]? = .some y := ⟨_, List.getElem?_eq_getElem (by rw [N3.out]; exact hlt)⟩
            have HYK := Lib.hid hy
            obtain ⟨b, o, c, hi, hbB, hce, hyp, _⟩ := HR.out.at 32 31 Tryz.underlying32 (by kernel_rfl) hy
            have HYP := Lib.hid hyp
            obtain ⟨_, _, _, yv, rfl, hyw⟩ := hyp
            obtain ⟨a6, c6, rfl, _⟩ := hyw.shape
            have e0 := (hB.cell hbB).trans (hce 0 _ rfl)
            have e1 := (hB.cell hbB).trans (hce 1 _ rfl)
            have e2 := (hB.cell hbB).trans (hce 2 _ rfl)
            have e3 := (hB.cell hbB).trans (hce 3 _ rfl)
            have hbB' := Nat.lt_of_lt_of_le hbB hB.size
            rw [Nat.add_zero] at e0
            obtain ⟨cs, q1, q2, q3, q4⟩ := HPS.out.cp
            have Q1 := Lib.hid q1
            have Q2 := Lib.hid q2
            have Q3 := Lib.hid q3
            have Q4 := Lib.hid q4
            clear q1 q2 q3 q4
            clear hy hce hyw
            go_upto_region 10 with fail
            obtain ⟨Y, hY⟩ : ∃ Y, Y = wr.alloc (.cells #[.int .i64 y.fd, .string y.op, .string y.tag, .slice a6 y.word.length c6] 31) := ⟨_, rfl⟩
            have y0 : Y.cell? ⟨wr.heap.size, 0, none⟩ = some (.int .i64 y.fd) := by rw [hY]; simp
            have y1 : Y.cell? ⟨wr.heap.size, 1, none⟩ = some (.string y.op) := by rw [hY]; simp
            have y2 : Y.cell? ⟨wr.heap.size, 2, none⟩ = some (.string y.tag) := by rw [hY]; simp
            have y3 : Y.cell? ⟨wr.heap.size, 3, none⟩ = some (.slice a6 y.word.length c6) := by rw [hY]; simp
            have HBY : Hid (Below wr.heap.size wr Y) := Lib.hid (by rw [hY]; exact (by repeat' (first | (with_reducible assumption) | (with_reducible exact Below.refl _ _) | (with_reducible refine below_drewN ?_ _) | (with_reducible refine below_bytes ?_ ?_ _) | (with_reducible refine Below.alloc ?_ ?_ _) | (with_reducible refine Below.drew ?_) | (with_reducible refine Below.setCell ?_ ?_ _) | go_size)))
            have hgY : wr.heap.size < Y.heap.size := by rw [hY]; simp
            have hgxr := HPS.out.st.box.lt
            have hgt := HPS.out.st.gt
            have hgxY : gx < Y.heap.size := by omega
            have HBOX := Lib.hid (HPS.out.st.box.below HBY.out hgxr)
            have bq := HBOX.out.cell 4
            have bf := HBOX.out.free 4
            simp at bq
            rw [← hY]
            clear hY
            have hBY : Below w.heap.size w Y := hB.trans (HBY.out.mono hBz)
            have HRW : Hid (∀ b, (Value.slice sa k sc).ownBlock = some b → b < Y.heap.size) := Lib.hid fun b e => by
              have := (World.ownsRow.lt Q3.out _ e).2
              omega
            have CW : Hid (∀ W, Below Y.heap.size Y W → Calls Tryz.prog 53 #[.agg #[.int .i64 y.fd, .string y.op, .string y.tag, .slice a6 y.word.length c6]] W fun e W' => ∃ a c, e = .returned (.agg #[.int .i64 y.fd, .string y.op, .string y.tag, .slice a y.word.length c]) ∧ (∀ W2, Below W'.heap.size W' W2 → ∀ g, (∀ b, g = some b → b < Y.heap.size) → RdC (onlyW W2 (freshB (w.heap.size + 2) [gx] g)) W2.heap.size d y [.int .i64 y.fd, .string y.op, .string y.tag, .slice a y.word.length c]) ∧ Below Y.heap.size Y W' ∧ Below W.heap.size W W') :=
              Lib.hid fun W hW => (HRC.out W y _ (HYP.out.keep fun size n v xs hs => (hs.below (hBY.trans (hW.mono hBY.size))).mono (Nat.le_trans hBY.size hW.size))).mono fun e W' ⟨a, c, h1, h2, h3⟩ =>
                ⟨a, c, h1, fun W2 hb g hg => later_rdc h2 W2 hb _ [gx] g (by have := hW.size; omega) (by have := hW.size; simp; omega) fun b e => Nat.lt_of_lt_of_le (hg b e) hW.size, hW.trans (h3.mono hW.size), h3⟩
            clear e0 e1 e2 e3 hi p0 p1 p2 p3 p4 p5 p6 pl
            go_region_law (first
              | (go_simp; go_at_call 53; with_reducible refine (CW.out _ (by repeat' (first | (with_reducible assumption) | (with_reducible exact Below.refl _ _) | (with_reducible refine below_drewN ?_ _) | (with_reducible refine below_bytes ?_ ?_ _) | (with_reducible refine Below.alloc ?_ ?_ _) | (with_reducible refine Below.drew ?_) | (with_reducible refine Below.setCell ?_ ?_ _) | go_size))).mono ?_; rintro e w1 ⟨av, cv, rfl, hq1, hb1, hc1⟩; 
                 have hs1 := hb1.size; have hgx1 : gx < w1.heap.size := Nat.lt_of_lt_of_le hgxY hs1; have hz1 := hc1.size; (try simp only [World.size_alloc, World.size_setCell, World.size_drew, size_drewN] at hz1); have hr1 : Below wr.heap.size wr w1 := HBY.out.trans (hb1.mono HBY.out.size); have HQ1 := Lib.hid hq1; clear hq1; have gq1 := (hb1.cell (p := ⟨gx, 4, none⟩) hgxY).trans bq; have gf1 := (hb1.frozen (p := ⟨gx, 4, none⟩) hgxY).trans bf
                 )
              |
                (refine step_append_sl rfl _ _ 60 rfl (w.heap.size + 2) 100 Tryz.underlying60 infoR14 rfl (by decide) (v := .slice sa k sc) (n := k) (xs := cs.flatten) rfl (own_below Q3.out (by repeat' (first | (with_reducible assumption) | (with_reducible exact Below.refl _ _) | (with_reducible refine below_drewN ?_ _) | (with_reducible refine below_bytes ?_ ?_ _) | (with_reducible refine Below.alloc ?_ ?_ _) | (with_reducible refine Below.drew ?_) | (with_reducible refine Below.setCell ?_ ?_ _) | go_size))) (m := 1) (news := [.int .i64 y.fd, .string y.op, .string y.tag, .slice av y.word.length cv]) rfl (sl_made_at _ #[.int .i64 y.fd, .string y.op, .string y.tag, .slice av y.word.length cv] _ 1 4 rfl (by unfold maxLen; omega) (by simp)) (by omega) (by intro u hu; simp at hu; rcases hu with rfl | rfl | rfl | rfl <;> rfl) (by omega) (by simp; omega) ?_; intro g1 cap1 w5 hown hgrow hlie hglt; have HP5 := Lib.hid (HPS.out.push (keeps_rd d) hgrow hlie hown (by repeat' (first | (with_reducible assumption) | (with_reducible exact Below.refl _ _) | (with_reducible refine below_drewN ?_ _) | (with_reducible refine below_bytes ?_ ?_ _) | (with_reducible refine Below.alloc ?_ ?_ _) | (with_reducible refine Below.drew ?_) | (with_reducible refine Below.setCell ?_ ?_ _) | go_size)) Q1.out Q2.out Q4.out HYK.out rfl (HQ1.out _ (by repeat' (first | (with_reducible assumption) | (with_reducible exact Below.refl _ _) | (with_reducible refine below_drewN ?_ _) | (with_reducible refine below_bytes ?_ ?_ _) | (with_reducible refine Below.alloc ?_ ?_ _) | (with_reducible refine Below.drew ?_) | (with_reducible refine Below.setCell ?_ ?_ _) | go_size)) _ HRW.out)); have hq5 := HP5.out.st.box.cell 4; have hf5 := HP5.out.st.box.free 4; simp at hq5; clear hown hgrow hlie hglt)
                )
            all_goals
              go_wp2_with fail
              go_roundw
              case rel => exact ⟨k + 1, _, _, by omega, by go_num, HP5.out.put (keeps_rd d) 4 _ rfl fun W h => ⟨h.1, h.2.1, fun e => absurd e (by omega), fun e => absurd e (by omega)⟩⟩
              case measure => simp [intOf]; omega
          · obtain rfl : n3 = k := by omega
            have HD := Lib.hid (Pushed.done (l := x.redirs) (by rw [N3.out]; exact HPS.out) (keeps_rd d) (by rw [N3.out]; exact hn3))
            obtain ⟨vr, hvr⟩ : ∃ v, v = Value.slice sa n3 sc := ⟨_, rfl⟩
            have HVr : Hid (∃ a c, vr = Value.slice a n3 c) := Lib.hid ⟨_, _, hvr⟩
            have HPS2 : Hid (Pushed w pc gx x d 3 25 1 (fun w B (y : List Nd) c => ∃ v, c = [v] ∧ NdsIn w B d y v) x.lists 0 (.slice none 0 0) va (.slice aw n2 cw) (.slice sa n3 sc) (.slice none 0 0) (.slice none 0 0) wr) :=
              Lib.hid ⟨HPS.out.st, Copied.start _ _ _ _ _ _ _, fun b e => by simp [Value.ownBlock] at e, HD.out.2.1, fun _ => HD.out.2.2.1 (by omega), fun _ => HD.out.1, fun e => absurd e (by omega)⟩
            clear HPS HD
            rw [← hvr] at HPS2
            clear hvr
            have HPS := HPS2
            clear HPS2
            go_wp2_with fail
            clear p0 p1 p2 p3 p4 p5 p6 pl hB hBz
            go_loopw [57] (fun i W => ∃ (k2 : Nat) (sa2 : Option Addr) (sc2 : Nat), k2 ≤ n4 ∧ i = .int .i64 k2 ∧ Pushed w pc gx x d 3 25 1 (fun w B (y : List Nd) c => ∃ v, c = [v] ∧ NdsIn w B d y v) x.lists k2 (.slice sa2 k2 sc2) va (.slice aw n2 cw) vr (.slice sa2 k2 sc2) (.slice none 0 0) W) (fun i _ => n4 - (intOf i).toNat)
            case atStart => exact ⟨0, none, 0, Nat.zero_le _, rfl, HPS.out⟩
            case round =>
              obtain ⟨k, sa, sc, hk, rfl, hps⟩ := hrel
              have HPS := Lib.hid hps
              clear hps
              have HPR : Hid (Blk wr w.heap.size 38 #[.int .i64 x.kind, .string x.name, .slice a1 n1 c1, .slice a2 n2 c2, .slice a3 n3 c3, .slice a4 n4 c4, .slice a5 n5 c5]) := Lib.hid (by rw [← HPC.out]; exact HPS.out.st.par)
              have hB := HPS.out.st.bel
              have hBz := hB.size
              have p0 := HPR.out.cell 0
              have p1 := HPR.out.cell 1
              have p2 := HPR.out.cell 2
              have p3 := HPR.out.cell 3
              have p4 := HPR.out.cell 4
              have p5 := HPR.out.cell 5
              have p6 := HPR.out.cell 6
              have pl := HPR.out.lt
              simp at p0 p1 p2 p3 p4 p5 p6
              by_cases hlt : k < n4
              · obtain ⟨y, hy⟩ : ∃ y, x.lists[k]? = .some y := ⟨_, List.getElem?_eq_getElem (by rw [N4.out]; exact hlt)⟩
                have HYK := Lib.hid hy
                obtain ⟨b, o, c, hi, hbB, hce, ⟨yv, rfl, hyp⟩, _⟩ := HLS.out.at 35 22 Tryz.underlying35 (by kernel_rfl) hy
                have HYP := Lib.hid hyp
                obtain ⟨a6, c6, rfl, _⟩ := hyp.shape
                have e0 := (hB.cell hbB).trans (hce 0 _ rfl)
                have hbB' := Nat.lt_of_lt_of_le hbB hB.size
                rw [Nat.add_zero] at e0
                obtain ⟨cs, q1, q2, q3, q4⟩ := HPS.out.cp
                have Q1 := Lib.hid q1
                have Q2 := Lib.hid q2
                have Q3 := Lib.hid q3
                have Q4 := Lib.hid q4
                clear q1 q2 q3 q4
                clear hy hce hyp
                go_upto_region 15 with fail
                obtain ⟨Y, hY⟩ : ∃ Y, Y = wr := ⟨_, rfl⟩
                have HBY : Hid (Below wr.heap.size wr Y) := Lib.hid (by rw [hY]; exact Below.refl _ _)
                have hwY := HBY.out.size
                have hgxY : gx < Y.heap.size := by rw [hY]; exact HPS.out.st.box.lt
                have hgt := HPS.out.st.gt
                have HBOX := Lib.hid (HPS.out.st.box.below HBY.out HPS.out.st.box.lt)
                have bq := HBOX.out.cell 5
                have bf := HBOX.out.free 5
                simp at bq
                have HRW : Hid (∀ b, (Value.slice sa k sc).ownBlock = some b → b < Y.heap.size) := Lib.hid fun b e => by
                  rw [hY]
                  exact (World.ownsRow.lt Q3.out _ e).2
                rw [← hY]
                clear hY
                have hBY : Below w.heap.size w Y := hB.trans (HBY.out.mono hBz)
                have CW : Hid (∀ W, Below Y.heap.size Y W → Calls Tryz.prog 9 #[.slice a6 y.length c6] W fun e W' => ∃ a c, e = .returned (.slice a y.length c) ∧ (∀ W2, Below W'.heap.size W' W2 → ∀ g, (∀ b, g = some b → b < Y.heap.size) → NdsIn (onlyW W2 (freshB (w.heap.size + 2) [gx] g)) W2.heap.size d y (.slice a y.length c)) ∧ Below Y.heap.size Y W' ∧ Below W.heap.size W W') :=
                  Lib.hid fun W hW => (HNC.out W _ _ ((HYP.out.below (hBY.trans (hW.mono hBY.size))).mono (Nat.le_trans hBY.size hW.size))).mono fun e W' ⟨a, c, h1, h2, h3⟩ =>
                    ⟨a, c, h1, fun W2 hb g hg => later_nds h2 W2 hb _ [gx] g (by have := hW.size; omega) (by have := hW.size; simp; omega) fun b e => Nat.lt_of_lt_of_le (hg b e) hW.size, hW.trans (h3.mono hW.size), h3⟩
                clear e0 hi p0 p1 p2 p3 p4 p5 p6 pl
                go_region_law (first
                  | (go_simp; go_at_call 9; with_reducible refine (CW.out _ (by repeat' (first | (with_reducible assumption) | (with_reducible exact Below.refl _ _) | (with_reducible refine below_drewN ?_ _) | (with_reducible refine below_bytes ?_ ?_ _) | (with_reducible refine Below.alloc ?_ ?_ _) | (with_reducible refine Below.drew ?_) | (with_reducible refine Below.setCell ?_ ?_ _) | go_size))).mono ?_; rintro e w1 ⟨av, cv, rfl, hq1, hb1, hc1⟩; 
                     have hs1 := hb1.size; have hgx1 : gx < w1.heap.size := Nat.lt_of_lt_of_le hgxY hs1; have hz1 := hc1.size; (try simp only [World.size_alloc, World.size_setCell, World.size_drew, size_drewN] at hz1); have hr1 : Below wr.heap.size wr w1 := HBY.out.trans (hb1.mono HBY.out.size); have HQ1 := Lib.hid hq1; clear hq1; have gq1 := (hb1.cell (p := ⟨gx, 5, none⟩) hgxY).trans bq; have gf1 := (hb1.frozen (p := ⟨gx, 5, none⟩) hgxY).trans bf
                     )
                  |
                    (refine step_append_sl rfl _ _ 61 rfl (w.heap.size + 2) 25 Tryz.underlying61 infoNs14 rfl (by decide) (v := .slice sa k sc) (n := k) (xs := cs.flatten) rfl (own_below Q3.out (by repeat' (first | (with_reducible assumption) | (with_reducible exact Below.refl _ _) | (with_reducible refine below_drewN ?_ _) | (with_reducible refine below_bytes ?_ ?_ _) | (with_reducible refine Below.alloc ?_ ?_ _) | (with_reducible refine Below.drew ?_) | (with_reducible refine Below.setCell ?_ ?_ _) | go_size))) (m := 1) (news := [.slice av y.length cv]) rfl (sl_made_at _ #[.slice av y.length cv] _ 1 1 rfl (by unfold maxLen; omega) (by simp)) (by omega) (by intro u hu; simp at hu; subst hu <;> rfl) (by omega) (by simp; omega) ?_; intro g1 cap1 w5 hown hgrow hlie hglt; have HP5 := Lib.hid (HPS.out.push (keeps_ls d) hgrow hlie hown (by repeat' (first | (with_reducible assumption) | (with_reducible exact Below.refl _ _) | (with_reducible refine below_drewN ?_ _) | (with_reducible refine below_bytes ?_ ?_ _) | (with_reducible refine Below.alloc ?_ ?_ _) | (with_reducible refine Below.drew ?_) | (with_reducible refine Below.setCell ?_ ?_ _) | go_size)) Q1.out Q2.out Q4.out HYK.out rfl ⟨_, rfl, HQ1.out _ (by repeat' (first | (with_reducible assumption) | (with_reducible exact Below.refl _ _) | (with_reducible refine below_drewN ?_ _) | (with_reducible refine below_bytes ?_ ?_ _) | (with_reducible refine Below.alloc ?_ ?_ _) | (with_reducible refine Below.drew ?_) | (with_reducible refine Below.setCell ?_ ?_ _) | go_size)) _ HRW.out⟩); have hq5 := HP5.out.st.box.cell 5; have hf5 := HP5.out.st.box.free 5; simp at hq5; clear hown hgrow hlie hglt)
                    )
                all_goals
                  go_wp2_with fail
                  go_roundw
                  case rel => exact ⟨k + 1, _, _, by omega, by go_num, HP5.out.put (keeps_ls d) 5 _ rfl fun W h => ⟨h.1, h.2.1, h.2.2.1, fun e => absurd e (by omega)⟩⟩
                  case measure => simp [intOf]; omega
              · obtain rfl : n4 = k := by omega
                have HD := Lib.hid (Pushed.done (l := x.lists) (by rw [N4.out]; exact HPS.out) (keeps_ls d) (by rw [N4.out]; exact hn4))
                obtain ⟨vl, hvl⟩ : ∃ v, v = Value.slice sa n4 sc := ⟨_, rfl⟩
                have HVl : Hid (∃ a c, vl = Value.slice a n4 c) := Lib.hid ⟨_, _, hvl⟩
                have HPS2 : Hid (Pushed w pc gx x d 4 92 2 (fun w B => ArC w B d) x.arms 0 (.slice none 0 0) va (.slice aw n2 cw) vr (.slice sa n4 sc) (.slice none 0 0) wr) :=
                  Lib.hid ⟨HPS.out.st, Copied.start _ _ _ _ _ _ _, fun b e => by simp [Value.ownBlock] at e, HD.out.2.1, fun _ => HD.out.2.2.1 (by omega), fun _ => HD.out.2.2.2.1 (by omega), fun _ => HD.out.1⟩
                clear HPS HD
                rw [← hvl] at HPS2
                clear hvl
                have HPS := HPS2
                clear HPS2
                go_wp2_with fail
                clear p0 p1 p2 p3 p4 p5 p6 pl hB hBz
                go_loopw [72] (fun i W => ∃ (k2 : Nat) (sa2 : Option Addr) (sc2 : Nat), k2 ≤ n5 ∧ i = .int .i64 k2 ∧ Pushed w pc gx x d 4 92 2 (fun w B => ArC w B d) x.arms k2 (.slice sa2 k2 sc2) va (.slice aw n2 cw) vr vl (.slice sa2 k2 sc2) W) (fun i _ => n5 - (intOf i).toNat)
                case atStart => exact ⟨0, none, 0, Nat.zero_le _, rfl, HPS.out⟩
                case round =>
                  obtain ⟨k, sa, sc, hk, rfl, hps⟩ := hrel
                  have HPS := Lib.hid hps
                  clear hps
                  have HPR : Hid (Blk wr w.heap.size 38 #[.int .i64 x.kind, .string x.name, .slice a1 n1 c1, .slice a2 n2 c2, .slice a3 n3 c3, .slice a4 n4 c4, .slice a5 n5 c5]) := Lib.hid (by rw [← HPC.out]; exact HPS.out.st.par)
                  have hB := HPS.out.st.bel
                  have hBz := hB.size
                  have p0 := HPR.out.cell 0
                  have p1 := HPR.out.cell 1
                  have p2 := HPR.out.cell 2
                  have p3 := HPR.out.cell 3
                  have p4 := HPR.out.cell 4
                  have p5 := HPR.out.cell 5
                  have p6 := HPR.out.cell 6
                  have pl := HPR.out.lt
                  simp at p0 p1 p2 p3 p4 p5 p6
                  by_cases hlt : k < n5
                  · obtain ⟨y, hy⟩ : ∃ y, x.arms[k]? = .some y := ⟨_, List.getElem?_eq_getElem (by rw [N5.out]; exact hlt)⟩
                    have HYK := Lib.hid hy
                    obtain ⟨b, o, c, hi, hbB, hce, ⟨wv, yv, rfl, hyw, hyp⟩, _⟩ := HM.out.at 36 90 Tryz.underlying36 (by kernel_rfl) hy
                    have HYP := Lib.hid hyp
                    have HYW := Lib.hid hyw
                    obtain ⟨a6, c6, rfl, _⟩ := hyp.shape
                    obtain ⟨a8, c8, rfl⟩ := hyw.shape
                    have e0 := (hB.cell hbB).trans (hce 0 _ rfl)
                    have e1 := (hB.cell hbB).trans (hce 1 _ rfl)
                    have hbB' := Nat.lt_of_lt_of_le hbB hB.size
                    rw [Nat.add_zero] at e0
                    obtain ⟨cs, q1, q2, q3, q4⟩ := HPS.out.cp
                    have Q1 := Lib.hid q1
                    have Q2 := Lib.hid q2
                    have Q3 := Lib.hid q3
                    have Q4 := Lib.hid q4
                    clear q1 q2 q3 q4
                    clear hy hce hyp hyw
                    go_upto_region 20 with fail
                    obtain ⟨Y, hY⟩ : ∃ Y, Y = wr.alloc (.cells #[.slice a8 y.words.length c8, .slice a6 y.body.length c6] 90) := ⟨_, rfl⟩
                    have y0 : Y.cell? ⟨wr.heap.size, 0, none⟩ = some (.slice a8 y.words.length c8) := by rw [hY]; simp
                    have y1 : Y.cell? ⟨wr.heap.size, 1, none⟩ = some (.slice a6 y.body.length c6) := by rw [hY]; simp
                    have HBY : Hid (Below wr.heap.size wr Y) := Lib.hid (by rw [hY]; exact (by repeat' (first | (with_reducible assumption) | (with_reducible exact Below.refl _ _) | (with_reducible refine below_drewN ?_ _) | (with_reducible refine below_bytes ?_ ?_ _) | (with_reducible refine Below.alloc ?_ ?_ _) | (with_reducible refine Below.drew ?_) | (with_reducible refine Below.setCell ?_ ?_ _) | go_size)))
                    have hgY : wr.heap.size < Y.heap.size := by rw [hY]; simp
                    have hgxr := HPS.out.st.box.lt
                    have hgt := HPS.out.st.gt
                    have hgxY : gx < Y.heap.size := by omega
                    have HBOX := Lib.hid (HPS.out.st.box.below HBY.out hgxr)
                    have bq := HBOX.out.cell 6
                    have bf := HBOX.out.free 6
                    simp at bq
                    rw [← hY]
                    clear hY
                    have hBY : Below w.heap.size w Y := hB.trans (HBY.out.mono hBz)
                    have HRW : Hid (∀ b, (Value.slice sa k sc).ownBlock = some b → b < Y.heap.size) := Lib.hid fun b e => by
                      have := (World.ownsRow.lt Q3.out _ e).2
                      omega
                    have CW : Hid (∀ W, Below Y.heap.size Y W → Calls Tryz.prog 52 #[.slice a8 y.words.length c8] W fun e W' => ∃ a c, e = .returned (.slice a y.words.length c) ∧ (∀ W2, Below W'.heap.size W' W2 → ∀ g, (∀ b, g = some b → b < Y.heap.size) → WdsIn (onlyW W2 (freshB (w.heap.size + 2) [gx] g)) W2.heap.size d y.words (.slice a y.words.length c)) ∧ Below Y.heap.size Y W' ∧ Below W.heap.size W W') :=
                      Lib.hid fun W hW => (HWS.out W _ _ (WdsIn.keep HYW.out fun size n v xs hs => (hs.below (hBY.trans (hW.mono hBY.size))).mono (Nat.le_trans hBY.size hW.size))).mono fun e W' ⟨a, c, h1, h2, h3⟩ =>
                        ⟨a, c, h1, fun W2 hb g hg => later_wds h2 W2 hb _ [gx] g (by have := hW.size; omega) (by have := hW.size; simp; omega) fun b e => Nat.lt_of_lt_of_le (hg b e) hW.size, hW.trans (h3.mono hW.size), h3⟩
                    have CN : Hid (∀ W, Below Y.heap.size Y W → Calls Tryz.prog 9 #[.slice a6 y.body.length c6] W fun e W' => ∃ a c, e = .returned (.slice a y.body.length c) ∧ (∀ W2, Below W'.heap.size W' W2 → ∀ g, (∀ b, g = some b → b < Y.heap.size) → NdsIn (onlyW W2 (freshB (w.heap.size + 2) [gx] g)) W2.heap.size d y.body (.slice a y.body.length c)) ∧ Below Y.heap.size Y W' ∧ Below W.heap.size W W') :=
                      Lib.hid fun W hW => (HNC.out W _ _ ((HYP.out.below (hBY.trans (hW.mono hBY.size))).mono (Nat.le_trans hBY.size hW.size))).mono fun e W' ⟨a, c, h1, h2, h3⟩ =>
                        ⟨a, c, h1, fun W2 hb g hg => later_nds h2 W2 hb _ [gx] g (by have := hW.size; omega) (by have := hW.size; simp; omega) fun b e => Nat.lt_of_lt_of_le (hg b e) hW.size, hW.trans (h3.mono hW.size), h3⟩
                    clear e0 e1 hi p0 p1 p2 p3 p4 p5 p6 pl
                    go_region_law (first
                      | (go_simp; go_at_call 52; with_reducible refine (CW.out _ (by repeat' (first | (with_reducible assumption) | (with_reducible exact Below.refl _ _) | (with_reducible refine below_drewN ?_ _) | (with_reducible refine below_bytes ?_ ?_ _) | (with_reducible refine Below.alloc ?_ ?_ _) | (with_reducible refine Below.drew ?_) | (with_reducible refine Below.setCell ?_ ?_ _) | go_size))).mono ?_; rintro e w1 ⟨av, cv, rfl, hq1, hb1, hc1⟩; have d0 := (hb1.cell hgY).trans y0; have d1 := (hb1.cell hgY).trans y1; have hgy1 : wr.heap.size < w1.heap.size := Nat.lt_of_lt_of_le hgY hb1.size;
                         have hs1 := hb1.size; have hgx1 : gx < w1.heap.size := Nat.lt_of_lt_of_le hgxY hs1; have hz1 := hc1.size; (try simp only [World.size_alloc, World.size_setCell, World.size_drew, size_drewN] at hz1); have hr1 : Below wr.heap.size wr w1 := HBY.out.trans (hb1.mono HBY.out.size); have HQ1 := Lib.hid hq1; clear hq1; have gq1 := (hb1.cell (p := ⟨gx, 6, none⟩) hgxY).trans bq; have gf1 := (hb1.frozen (p := ⟨gx, 6, none⟩) hgxY).trans bf
                         )
                      | (go_simp; go_at_call 9; with_reducible refine (CN.out _ (by repeat' (first | (with_reducible assumption) | (with_reducible exact Below.refl _ _) | (with_reducible refine below_drewN ?_ _) | (with_reducible refine below_bytes ?_ ?_ _) | (with_reducible refine Below.alloc ?_ ?_ _) | (with_reducible refine Below.drew ?_) | (with_reducible refine Below.setCell ?_ ?_ _) | go_size))).mono ?_; rintro e w2 ⟨ab, cb, rfl, hq2, hb2, hc2⟩; have d0 := (hb2.cell hgY).trans y0; have d1 := (hb2.cell hgY).trans y1; have hgy2 : wr.heap.size < w2.heap.size := Nat.lt_of_lt_of_le hgY hb2.size;
                         have hs2 := hb2.size; have hgx2 : gx < w2.heap.size := Nat.lt_of_lt_of_le hgxY hs2; have hz2 := hc2.size; (try simp only [World.size_alloc, World.size_setCell, World.size_drew, size_drewN] at hz2); have hr2 : Below wr.heap.size wr w2 := HBY.out.trans (hb2.mono HBY.out.size); have HQ2 := Lib.hid hq2; clear hq2; have gq2 := (hb2.cell (p := ⟨gx, 6, none⟩) hgxY).trans bq; have gf2 := (hb2.frozen (p := ⟨gx, 6, none⟩) hgxY).trans bf
                         )
                      |
                        (refine step_append_sl rfl _ _ 62 rfl (w.heap.size + 2) 92 Tryz.underlying62 infoM14 rfl (by decide) (v := .slice sa k sc) (n := k) (xs := cs.flatten) rfl (own_below Q3.out (by repeat' (first | (with_reducible assumption) | (with_reducible exact Below.refl _ _) | (with_reducible refine below_drewN ?_ _) | (with_reducible refine below_bytes ?_ ?_ _) | (with_reducible refine Below.alloc ?_ ?_ _) | (with_reducible refine Below.drew ?_) | (with_reducible refine Below.setCell ?_ ?_ _) | go_size))) (m := 1) (news := [.slice av y.words.length cv, .slice ab y.body.length cb]) rfl (sl_made_at _ #[.slice av y.words.length cv, .slice ab y.body.length cb] _ 1 2 rfl (by unfold maxLen; omega) (by simp)) (by omega) (by intro u hu; simp at hu; rcases hu with rfl | rfl <;> rfl) (by omega) (by simp; omega) ?_; intro g1 cap1 w5 hown hgrow hlie hglt; have HP5 := Lib.hid (HPS.out.push (keeps_ar d) hgrow hlie hown (by repeat' (first | (with_reducible assumption) | (with_reducible exact Below.refl _ _) | (with_reducible refine below_drewN ?_ _) | (with_reducible refine below_bytes ?_ ?_ _) | (with_reducible refine Below.alloc ?_ ?_ _) | (with_reducible refine Below.drew ?_) | (with_reducible refine Below.setCell ?_ ?_ _) | go_size)) Q1.out Q2.out Q4.out HYK.out rfl ⟨_, _, rfl, HQ1.out _ (by repeat' (first | (with_reducible assumption) | (with_reducible exact Below.refl _ _) | (with_reducible refine below_drewN ?_ _) | (with_reducible refine below_bytes ?_ ?_ _) | (with_reducible refine Below.alloc ?_ ?_ _) | (with_reducible refine Below.drew ?_) | (with_reducible refine Below.setCell ?_ ?_ _) | go_size)) _ HRW.out, HQ2.out _ (by repeat' (first | (with_reducible assumption) | (with_reducible exact Below.refl _ _) | (with_reducible refine below_drewN ?_ _) | (with_reducible refine below_bytes ?_ ?_ _) | (with_reducible refine Below.alloc ?_ ?_ _) | (with_reducible refine Below.drew ?_) | (with_reducible refine Below.setCell ?_ ?_ _) | go_size)) _ HRW.out⟩); have hq5 := HP5.out.st.box.cell 6; have hf5 := HP5.out.st.box.free 6; simp at hq5; clear hown hgrow hlie hglt)
                        )
                    all_goals
                      go_wp2_with fail
                      go_roundw
                      case rel => exact ⟨k + 1, _, _, by omega, by go_num, HP5.out.put (keeps_ar d) 6 _ rfl fun W h => ⟨h.1, h.2.1, h.2.2.1, h.2.2.2⟩⟩
                      case measure => simp [intOf]; omega
                  · obtain rfl : n5 = k := by omega
                    have HD := Lib.hid (Pushed.done (l := x.arms) (by rw [N5.out]; exact HPS.out) (keeps_ar d) (by rw [N5.out]; exact hn5))
                    obtain ⟨vm, hvm⟩ : ∃ v, v = Value.slice sa n5 sc := ⟨_, rfl⟩
                    have HVm : Hid (∃ a c, vm = Value.slice a n5 c) := Lib.hid ⟨_, _, hvm⟩
                    have HKB : Hid (Blk wr gx 64 #[.int .i64 x.kind, .string x.name, va, .slice aw n2 cw, vr, vl, vm]) := Lib.hid (by rw [hvm]; exact HPS.out.st.box)
                    have HKR := Lib.hid HPS.out.st.res
                    have hgt := HPS.out.st.gt
                    have HBW := Lib.hid HPS.out.st.bel
                    have HD0 : Hid (ArsIn (onlyW wr (freshB (w.heap.size + 2) [gx] none)) wr.heap.size d x.arms vm) := Lib.hid (by rw [hvm]; exact HD.out.1)
                    have HD1 := Lib.hid HD.out.2
                    clear HPS HD hvm p0 p1 p2 p3 p4 p5 p6 pl hB
                    obtain ⟨za1, zc1, rfl⟩ := HVa.out
                    obtain ⟨za2, zc2, rfl⟩ := HVr.out
                    obtain ⟨za3, zc3, rfl⟩ := HVl.out
                    obtain ⟨za4, zc4, rfl⟩ := HVm.out
                    clear HVa HVr HVl HVm
                    obtain ⟨V, hV⟩ : ∃ V, V = ((((((wr.setCell ⟨w.heap.size + 1, 0, none⟩ (.int .i64 x.kind)).setCell ⟨w.heap.size + 1, 1, none⟩ (.string x.name)).setCell ⟨w.heap.size + 1, 2, none⟩ (.slice za1 n1 zc1)).setCell ⟨w.heap.size + 1, 3, none⟩ (.slice aw n2 cw)).setCell ⟨w.heap.size + 1, 4, none⟩ (.slice za2 n3 zc2)).setCell ⟨w.heap.size + 1, 5, none⟩ (.slice za3 n4 zc3)).setCell ⟨w.heap.size + 1, 6, none⟩ (.slice za4 n5 zc4) := ⟨_, rfl⟩
                    have HKV : Hid (Blk V (w.heap.size + 1) 64 #[.int .i64 x.kind, .string x.name, .slice za1 n1 zc1, .slice aw n2 cw, .slice za2 n3 zc2, .slice za3 n4 zc3, .slice za4 n5 zc4]) := Lib.hid (by rw [hV]; exact ((((((HKR.out.put 0 _).put 1 _).put 2 _).put 3 _).put 4 _).put 5 _).put 6 _)
                    have HK : Hid (Kept wr (w.heap.size + 2) [gx] none wr.heap.size V w.heap.size [] none V.heap.size) := Lib.hid ⟨by rw [hV]; simp, fun b h1 h2 h3 h4 => ⟨⟨by omega, by simp, by simp⟩, fun o => by
                      rw [hV]
                      repeat rw [World.cell?_setCell_other _ _ _ _ (fun e => by injection e with e _; omega)]⟩⟩
                    have HBV : Hid (Below w.heap.size w V) := Lib.hid (by rw [hV]; exact ((((((HBW.out.setCell (by simp) _).setCell (by simp) _).setCell (by simp) _).setCell (by simp) _).setCell (by simp) _).setCell (by simp) _).setCell (by simp) _)
                    have HV := Lib.hid hV
                    clear hV
                    have b0 := HKB.out.cell 0
                    have b1 := HKB.out.cell 1
                    have b2 := HKB.out.cell 2
                    have b3 := HKB.out.cell 3
                    have b4 := HKB.out.cell 4
                    have b5 := HKB.out.cell 5
                    have b6 := HKB.out.cell 6
                    have bl := HKB.out.lt
                    simp at b0 b1 b2 b3 b4 b5 b6
                    have r0 := HKR.out.cell 0
                    have r1 := HKR.out.cell 1
                    have r2 := HKR.out.cell 2
                    have r3 := HKR.out.cell 3
                    have r4 := HKR.out.cell 4
                    have r5 := HKR.out.cell 5
                    have r6 := HKR.out.cell 6
                    have rl := HKR.out.lt
                    simp at r0 r1 r2 r3 r4 r5 r6
                    have rf0 := HKR.out.free 0
                    have rf1 := HKR.out.free 1
                    have rf2 := HKR.out.free 2
                    have rf3 := HKR.out.free 3
                    have rf4 := HKR.out.free 4
                    have rf5 := HKR.out.free 5
                    have rf6 := HKR.out.free 6
                    go_wp2_with fail
                    rw [← HV.out]
                    clear b0 b1 b2 b3 b4 b5 b6 bl r0 r1 r2 r3 r4 r5 r6 rl rf0 rf1 rf2 rf3 rf4 rf5 rf6
                    have v0 := HKV.out.cell 0
                    have v1 := HKV.out.cell 1
                    have v2 := HKV.out.cell 2
                    have v3 := HKV.out.cell 3
                    have v4 := HKV.out.cell 4
                    have v5 := HKV.out.cell 5
                    have v6 := HKV.out.cell 6
                    have vl := HKV.out.lt
                    simp at v0 v1 v2 v3 v4 v5 v6
                    refine bodyPost_ret (v := .agg #[.int .i64 x.kind, .string x.name, .slice za1 n1 zc1, .slice aw n2 cw, .slice za2 n3 zc2, .slice za3 n4 zc3, .slice za4 n5 zc4]) (by simp [results, Tryz.results38, go_sem, v0, v1, v2, v3, v4, v5, v6]) rfl ?_
                    exact ⟨_, _, _, _, _, _, _, _, _, _, rfl, ⟨HXZ.out, _, _, _, _, _, rfl, HK.out.ass (HD1.out.2.1 (by omega)), HK.out.wds HD1.out.1, HK.out.rds (HD1.out.2.2.1 (by omega)), HK.out.lss (HD1.out.2.2.2 (by omega)), HK.out.ars HD0.out⟩, HBV.out⟩
end Go.Proofs.YtnackmnoldkihaaGreatDoor
/-
  Copies, at every depth.
-/
namespace Go.Proofs.YtnackmnoldkihaaGreatDoor
open Go.RowKit

theorem copies : ∀ d, WordC d ∧ NodesC d
  | 0 => by
    have hP : WordC 0 := fun W l v h => by
      rw [PtsIn] at h
      obtain rfl := h.zero
      obtain ⟨a, cap, rfl, _⟩ := h.len
      clear h
      have hn : ([] : List Pt).length = 0 := rfl
      rw [hn]
      go_enter Tryz.func14, Tryz.ntmps14
      go_wp2_with fail
      go_rounds 1
      go_ret
      exact ⟨_, _, rfl, pts_nil _ _ _, Below.refl _ _⟩
    have hS : NodesC 0 := fun W l v h => by
      rw [NdsIn] at h
      obtain rfl := h.zero
      obtain ⟨a, cap, rfl, _⟩ := h.len
      clear h
      have hn : ([] : List Nd).length = 0 := rfl
      rw [hn]
      go_enter Tryz.func9, Tryz.ntmps9
      go_wp2_with fail
      go_rounds 1
      go_ret
      exact ⟨_, _, rfl, nds_nil _ _ _, Below.refl _ _⟩
    exact ⟨hP, hS⟩
  | d + 1 => by
    obtain ⟨h1, h2⟩ := copies d
    refine ⟨fun W l v h => ?_, fun W l v h => ?_⟩
    · rw [PtsIn.succ] at h
      exact (word_copy d h1 h2 l v W h).mono fun e W' ⟨a, c, k1, k2, k3⟩ => ⟨a, c, k1, by rw [PtsIn.succ]; exact k2, k3⟩
    · rw [NdsIn.succ] at h
      exact (nodes_copy d (node_copy d h1 h2) l v W h).mono fun e W' ⟨a, c, k1, k2, k3⟩ => ⟨a, c, k1, by rw [NdsIn.succ]; exact k2, k3⟩
/-- Nodes: a copy that lies like what was copied. -/
theorem nodes_any (l : List Nd) (v : Value) (w : World) (d : Nat) (hl : NdsIn w w.heap.size d l v) :
    Calls Tryz.prog 9 #[v] w fun e w' => (∃ a c, e = .returned (.slice a l.length c) ∧ NdsIn w' w'.heap.size d l (.slice a l.length c)) ∧ Below w.heap.size w w' :=
  ((copies d).2 w l v hl).mono fun _ _ ⟨a, c, h1, h2, h3⟩ => ⟨⟨a, c, h1, h2.off⟩, h3⟩
theorem wordm_any (l : List Pt) (v : Value) (w : World) (d : Nat) (hl : PtsIn w w.heap.size d l v) :
    Calls Tryz.prog 14 #[v] w fun e w' => (∃ a c, e = .returned (.slice a l.length c) ∧ PtsIn w' w'.heap.size d l (.slice a l.length c)) ∧ Below w.heap.size w w' :=
  ((copies d).1 w l v hl).mono fun _ _ ⟨a, c, h1, h2, h3⟩ => ⟨⟨a, c, h1, h2.off⟩, h3⟩
end Go.Proofs.YtnackmnoldkihaaGreatDoor
/-
  The document's side: literal and Doc.
-/
namespace Go.Proofs.YtnackmnoldkihaaGreatDoor
open Go.RowKit

set_option maxHeartbeats 1000000 in
set_option maxRecDepth 100000 in
theorem rliteral_any (l : List Pt) (v : Value) (w : World) (d : Nat) (hl : SlOf w w.heap.size 6 (PtC w w.heap.size d) l v) :
    Calls Tryz.prog 42 #[v] w fun e w' => e = .returned (.bool (litrB l)) ∧ w = w' := by
  obtain ⟨a, cap, rfl, hz⟩ := hl.len
  obtain ⟨n, hn⟩ : ∃ n, l.length = n := ⟨_, rfl⟩
  rw [hn] at hl hz ⊢
  have HL := Lib.hid hl
  have HN := Lib.hid hn
  obtain ⟨r, hr⟩ : ∃ r, litrB l = r := ⟨_, rfl⟩
  rw [hr]
  have HR := Lib.hid hr
  clear hl hn hr
  by_cases h0 : n = 0
  · have e0 : ((n : Int) == 0) = true := by simp [h0]
    have e1 : ((n : Int) == 1) = false := by simp; omega
    have HE : Hid (r = true) := Lib.hid (by rw [← HR.out, List.length_eq_zero_iff.1 (HN.out.trans h0)]; rfl)
    go_enter Tryz.func42, Tryz.ntmps42
    go_wp2_with fail
    go_ret
    exact ⟨ret_bool HE.out.symm, rfl⟩
  · have e0 : ((n : Int) == 0) = false := by simp; omega
    by_cases h1 : n = 1
    · subst h1
      clear e0
      obtain ⟨x, hx⟩ : ∃ x, l = [x] := List.length_eq_one_iff.1 HN.out
      obtain ⟨b, o, c, hi, hbB, hce, hC, _⟩ := HL.out.at 41 72 Tryz.underlying41 (by kernel_rfl) (show l[0]? = some x by rw [hx]; rfl)
      obtain ⟨a3, c3, a4, c4, rfl, _⟩ := hC.open
      have e2 := hce 0 _ rfl
      rw [Nat.add_zero] at e2
      have HE : Hid (r = (x.kind == 1)) := Lib.hid (by rw [← HR.out, hx]; rfl)
      have hi0 : ∀ w' : World, (Instr.indexAt 41 (.slice a 1 cap) (.int .i64 0)).run Tryz.prog w' = .ok (.pointer (some ⟨b, o, none⟩)) w' := hi
      clear hx hce hC hi
      go_enter Tryz.func42, Tryz.ntmps42
      go_wp2_with fail
      go_ret
      exact ⟨ret_bool HE.out.symm, rfl⟩
    · have e1 : ((n : Int) == 1) = false := by simp; omega
      have HE : Hid (r = false) := Lib.hid (by rw [← HR.out]; exact litr_two (by rw [HN.out]; omega))
      go_enter Tryz.func42, Tryz.ntmps42
      go_wp2_with fail
      go_ret
      exact ⟨ret_bool HE.out.symm, rfl⟩

def escSigns : ByteArray := ⟨#[92, 36, 96]⟩
theorem escSigns_iff (c : UInt8) : hasB (L escSigns) c = decide (c = 92 ∨ c = 36 ∨ c = 96) := by
  have h : L escSigns = [92, 36, 96] := rfl
  rw [h, hasB]
  simp [List.contains, List.elem]
  cases h1 : c == 92 <;> cases h2 : c == 36 <;> cases h3 : c == 96 <;> simp_all
/-- So many bytes of a part's text, written. -/
def bodyL (lit : Bool) (l : List UInt8) : List UInt8 := bif lit then l else escL l
theorem bodyL_snoc (lit : Bool) (l : List UInt8) (k : Nat) (c : UInt8) (h : l[k]? = some c) : bodyL lit (l.take (k + 1)) = bodyL lit (l.take k) ++ (bif !lit && hasB (L escSigns) c then [92, c] else [c]) := by
  cases lit with
  | true =>
    show l.take (k + 1) = l.take k ++ [c]
    rw [List.take_add_one, h]; rfl
  | false =>
    show escL (l.take (k + 1)) = escL (l.take k) ++ _
    rw [escL_snoc l k c h, escSigns_iff]
    by_cases hc : c = 92 ∨ c = 36 ∨ c = 96
    · rw [if_pos hc, decide_eq_true hc]; rfl
    · rw [if_neg hc, decide_eq_false hc]; rfl
theorem bodyL_len (lit : Bool) (l : List UInt8) : (bodyL lit l).length ≤ 2 * l.length := by
  cases lit with
  | true => show l.length ≤ _; omega
  | false => exact escL_len l

set_option maxHeartbeats 2000000 in
set_option maxRecDepth 100000 in
theorem rdoc_any (l : List Pt) (v : Value) (w : World) (d0 : Nat) (hl : PtsIn w w.heap.size d0 l v) (hsum : (l.map fun p => p.text.size).sum ≤ 1048576) :
    Calls Tryz.prog 13 #[v] w fun e w' => e = .returned (.string (S (docL l))) ∧ w = w' := by
  obtain ⟨d, hl⟩ := hl.up
  obtain ⟨a, cap, rfl, hz⟩ := hl.len
  obtain ⟨n, hn⟩ : ∃ n, l.length = n := ⟨_, rfl⟩
  have HSZ : Hid (∀ k, ((l.take k).flatMap (docP (litrB l))).length ≤ 8388608) := Lib.hid fun k => by have := flat_docP_take (litrB l) l k; omega
  have CL := Lib.hid (rliteral_any l _ w d hl)
  have CI : Hid (∀ (c : UInt8), Calls Tryz.prog 43 #[.string ⟨#[92, 36, 96]⟩, .int .u8 ((c.toNat : Nat) : Int)] w fun e w' => e = .returned (.bool (hasB (L escSigns) c)) ∧ w = w') := Lib.hid fun c => (In_any escSigns c w (by decide)).mono fun _ _ h => ⟨h.1, h.2.symm⟩
  rw [hn] at hl hz CL ⊢
  have HL := Lib.hid hl
  have HN := Lib.hid hn
  have HDL : Hid (docL l = l.flatMap (docP (litrB l))) := Lib.hid rfl
  obtain ⟨lt, hlt⟩ : ∃ b, litrB l = b := ⟨_, rfl⟩
  rw [hlt] at CL HSZ HDL
  clear hl hn hlt hsum
  go_enter Tryz.func13, Tryz.ntmps13
  go_wp2_with fail
  go_loop [3, 4] (fun s i => ∃ (k : Nat) (t : ByteArray), k ≤ n ∧ i = .int .i64 k ∧ s = .string t ∧ L t = (l.take k).flatMap (docP lt)) (fun _ i => n - (intOf i).toNat)
  case atStart => exact ⟨0, ⟨#[]⟩, Nat.zero_le _, rfl, rfl, rfl⟩
  case round =>
    obtain ⟨k, t, hk, rfl, rfl, ht⟩ := hrel
    have HT := Lib.hid ht
    have htz : t.size ≤ 8388608 := by have h := HSZ.out k; rw [← ht, L_size] at h; exact h
    clear ht
    by_cases hlt : k < n
    · obtain ⟨x, hx⟩ : ∃ x, l[k]? = .some x := ⟨_, List.getElem?_eq_getElem (by rw [HN.out]; exact hlt)⟩
      obtain ⟨b, o, c, hi, hbB, hce, hC, _⟩ := HL.out.at 41 72 Tryz.underlying41 (by kernel_rfl) hx
      have HX := Lib.hid (flat_snoc (f := docP lt) hx)
      have HSK : Hid ((t.size + (docP lt x).length) ≤ 8388608) := Lib.hid (by have h := HSZ.out (k + 1); rw [HX.out, List.length_append, ← HT.out, L_size] at h; exact h)
      obtain ⟨a3, c3, a4, c4, rfl, ⟨hC1, _⟩, _⟩ := hC.open
      have e0 := hce 0 _ rfl
      have e2 := hce 2 _ rfl
      rw [Nat.add_zero] at e0
      clear hx hce hC
      have HD : Hid (docP lt x = bif x.kind == 2 then [36, 123] ++ L x.text ++ [125] else bif x.kind == 4 then [36, 40, 40] ++ L x.text ++ [41, 41] else bodyL lt (L x.text)) := Lib.hid rfl
      obtain ⟨dx, hdx⟩ : ∃ dx, docP lt x = dx := ⟨_, rfl⟩
      rw [hdx] at HD HX HSK
      clear hdx
      obtain ⟨xk, hxk⟩ : ∃ k, x.kind = k := ⟨_, rfl⟩
      obtain ⟨xt, hxt⟩ : ∃ k, x.text = k := ⟨_, rfl⟩
      rw [hxk] at HD e0
      rw [hxt] at HD e2 hC1
      clear hxk hxt
      cases hk2 : (xk == 2) with
      | true =>
        have HE : Hid (dx = [36, 123] ++ L xt ++ [125]) := Lib.hid (by rw [HD.out, hk2]; rfl)
        go_wp2_with fail
        go_round
        case rel => exact ⟨k + 1, _, by omega, by go_num, rfl, by rw [HX.out, HE.out, ← HT.out]; simp [L_append]⟩
        case measure => simp [intOf]; omega
      | false =>
        cases hk4 : (xk == 4) with
        | true =>
          have HE : Hid (dx = [36, 40, 40] ++ L xt ++ [41, 41]) := Lib.hid (by rw [HD.out, hk2, hk4]; rfl)
          go_wp2_with fail
          go_round
          case rel => exact ⟨k + 1, _, by omega, by go_num, rfl, by rw [HX.out, HE.out, ← HT.out]; simp [L_append]⟩
          case measure => simp [intOf]; omega
        | false =>
          have HE : Hid (dx = bodyL lt (L xt)) := Lib.hid (by rw [HD.out, hk2, hk4]; rfl)
          go_wp2_with fail
          go_loop [3, 5] (fun s j => ∃ (m : Nat) (u : ByteArray), m ≤ xt.size ∧ j = .int .i64 m ∧ s = .string u ∧ L u = L t ++ bodyL lt ((L xt).take m)) (fun _ j => xt.size - (intOf j).toNat)
          case atStart => exact ⟨0, t, Nat.zero_le _, rfl, rfl, by cases lt <;> simp [bodyL, escL]⟩
          case round =>
            obtain ⟨m, u, hm, rfl, rfl, hu⟩ := hrel
            have HU := Lib.hid hu
            have huz : u.size ≤ 16777216 := by
              have h1 := bodyL_len lt ((L xt).take m)
              have h2 : (L u).length = u.size := L_size u
              rw [hu, List.length_append, L_size] at h2
              have h3 : ((L xt).take m).length ≤ xt.size := by rw [List.length_take, L_size]; omega
              omega
            clear hu
            by_cases hm2 : m < xt.size
            · have hidx := run_idx (P := Tryz.prog) Tryz.underlying9 xt (k := .i64) (m : Int) m rfl hm2
              have hget := getD_get (show m < (L xt).length from hm2)
              obtain ⟨cc, hcc⟩ : ∃ cc, cc = (L xt).getD m 0 := ⟨_, rfl⟩
              rw [← hcc] at hidx hget
              have HSN := Lib.hid (bodyL_snoc lt (L xt) m cc hget)
              have HEX : Hid (L (xt.extract m (m + 1)) = [cc]) := Lib.hid (by rw [L_extract, show m + 1 - m = 1 by omega, drop_getD (L xt) hm2, ← hcc]; rfl)
              have hexz : (xt.extract m (m + 1)).size = 1 := by rw [← L_size, HEX.out]; rfl
              have CI1 := Lib.hid (CI.out cc)
              obtain ⟨hb, hhb⟩ : ∃ hb, hasB (L escSigns) cc = hb := ⟨_, rfl⟩
              rw [hhb] at HSN CI1
              clear hcc hget hhb
              cases lt with
              | true =>
                go_wp2_with (go_at_call 42; with_reducible refine (CL.out).mono ?_; rintro e w1 ⟨rfl, rfl⟩)
                go_round
                case rel => exact ⟨m + 1, _, by omega, by go_num, rfl, by rw [HSN.out, ← List.append_assoc, ← HU.out]; simp [L_append, HEX.out]⟩
                case measure => simp [intOf]; omega
              | false =>
                cases hb with
                | true =>
                  go_wp2_with (first | (go_at_call 42; with_reducible refine (CL.out).mono ?_; rintro e w1 ⟨rfl, rfl⟩) | (go_at_call 43; with_reducible refine (CI1.out).mono ?_; rintro e w1 ⟨rfl, rfl⟩))
                  go_round
                  case rel => exact ⟨m + 1, _, by omega, by go_num, rfl, by rw [HSN.out, ← List.append_assoc, ← HU.out]; simp [L_append, HEX.out]⟩
                  case measure => simp [intOf]; omega
                | false =>
                  go_wp2_with (first | (go_at_call 42; with_reducible refine (CL.out).mono ?_; rintro e w1 ⟨rfl, rfl⟩) | (go_at_call 43; with_reducible refine (CI1.out).mono ?_; rintro e w1 ⟨rfl, rfl⟩))
                  go_round
                  case rel => exact ⟨m + 1, _, by omega, by go_num, rfl, by rw [HSN.out, ← List.append_assoc, ← HU.out]; simp [L_append, HEX.out]⟩
                  case measure => simp [intOf]; omega
            · go_wp2_with fail
              go_round
              case rel => exact ⟨k + 1, _, by omega, by go_num, rfl, by rw [HX.out, HE.out, ← HT.out, HU.out, List.take_of_length_le (by rw [L_size]; omega)]⟩
              case measure => simp [intOf]; omega
    · have HR : Hid (S (docL l) = t) := Lib.hid (by
        have h := HT.out
        rw [List.take_of_length_le (by rw [HN.out]; omega), ← HDL.out] at h
        rw [← h, S_L])
      go_wp2
      go_ret
      exact ⟨by rw [HR.out]; rfl, rfl⟩
end Go.Proofs.YtnackmnoldkihaaGreatDoor
namespace Go.Proofs.YtnackmnoldkihaaGreatDoor
open Go.RowKit

/-! ### a text that is in another one; a line of a text -/
theorem contains_iff (s t : List UInt8) : Lib.contains s t = true ↔ ∃ a b, s = a ++ (t ++ b) := by
  rw [Lib.contains, decide_eq_true_iff]
  rcases Lib.index_spec s t with ⟨h1, h2⟩ | ⟨i, h1, h2, h3, _⟩
  · rw [h1]
    refine ⟨fun h => by omega, fun ⟨a, b, h⟩ => ?_⟩
    have := h2 a.length (by rw [h]; simp)
    rw [Lib.occAt, h, List.drop_left] at this
    rw [Bool.eq_false_iff] at this
    exact absurd (List.isPrefixOf_iff_prefix.2 ⟨b, rfl⟩) this
  · rw [h1]
    refine ⟨fun _ => ?_, fun _ => by omega⟩
    rw [Lib.occAt] at h3
    obtain ⟨b, hb⟩ := List.isPrefixOf_iff_prefix.1 h3
    exact ⟨s.take i, b, by rw [hb, List.take_append_drop]⟩
/-- A line of the text, of which cur has been read, is the tag. -/
def standsL (tag : List UInt8) : List UInt8 → List UInt8 → Bool
  | _, [] => false
  | cur, c :: r => bif c == 10 then (cur == tag || standsL tag [] r) else standsL tag (cur ++ [c]) r
theorem no_split {a b c d : List UInt8} (ha : (10 : UInt8) ∉ a) (hb : (10 : UInt8) ∉ b) (h : a ++ 10 :: c = b ++ 10 :: d) : a = b ∧ c = d := by
  induction a generalizing b with
  | nil =>
    cases b with
    | nil => simp at h; exact ⟨rfl, h⟩
    | cons x b => simp at h; exact absurd (by simp [← h.1]) hb
  | cons x a ih =>
    cases b with
    | nil => simp at h; exact absurd (by simp [h.1]) ha
    | cons y b =>
      simp at h
      obtain ⟨rfl, h⟩ := h
      obtain ⟨rfl, h2⟩ := ih (fun e => ha (by simp [e])) (fun e => hb (by simp [e])) h
      exact ⟨rfl, h2⟩
theorem first_split {a : List UInt8} (h : (10 : UInt8) ∈ a) : ∃ a1 a2, a = a1 ++ 10 :: a2 ∧ (10 : UInt8) ∉ a1 := by
  induction a with
  | nil => simp at h
  | cons y a ih =>
    by_cases hy : y = 10
    · exact ⟨[], a, by rw [hy]; rfl, by simp⟩
    · obtain ⟨p, q, e, hp⟩ := ih (by simp at h; exact h.resolve_left fun e => hy e.symm)
      exact ⟨y :: p, q, by rw [e]; rfl, by simp [hp]; exact fun e => hy e.symm⟩
theorem stands_iff (tag : List UInt8) (ht : (10 : UInt8) ∉ tag) : ∀ (l cur : List UInt8), (10 : UInt8) ∉ cur →
    (standsL tag cur l = true ↔ ∃ a b, 10 :: (cur ++ l) = a ++ ((10 :: (tag ++ [10])) ++ b))
  | [], cur, hc => by
    refine ⟨fun h => (by simp [standsL] at h), fun ⟨a, b, h⟩ => ?_⟩
    rw [List.append_nil] at h
    cases a with
    | nil =>
      simp at h
      exact absurd (by rw [h]; simp) hc
    | cons x a =>
      simp at h
      exact absurd (by rw [h.2]; simp) hc
  | c :: r, cur, hc => by
    rw [standsL]
    by_cases h10 : c = 10
    · subst h10
      have ih := stands_iff tag ht r [] (by simp)
      simp only [beq_self_eq_true, cond_true, Bool.or_eq_true, beq_iff_eq]
      rw [ih]
      constructor
      · rintro (rfl | ⟨a, b, h⟩)
        · exact ⟨[], r, by simp⟩
        · exact ⟨10 :: cur ++ a, b, by simp at h ⊢; exact h⟩
      · rintro ⟨a, b, h⟩
        cases a with
        | nil =>
          simp at h
          have h' : cur ++ 10 :: r = tag ++ 10 :: b := by simpa using h
          exact .inl (no_split hc ht h').1
        | cons x a =>
          simp at h
          obtain ⟨rfl, h⟩ := h
          right
          -- where the rest of a ends
          by_cases hm : (10 : UInt8) ∈ a
          · obtain ⟨a1, a2, rfl, hn⟩ := first_split hm
            have h' : cur ++ 10 :: r = a1 ++ 10 :: (a2 ++ 10 :: (tag ++ 10 :: b)) := by simpa using h
            obtain ⟨_, e⟩ := no_split hc hn h'
            exact ⟨10 :: a2, b, by rw [e]; simp⟩
          · have h' : cur ++ 10 :: r = a ++ 10 :: (tag ++ 10 :: b) := by simpa using h
            obtain ⟨_, e⟩ := no_split hc hm h'
            exact ⟨[], b, by rw [e]; simp⟩
    · have hb : (c == 10) = false := by simp [h10]
      rw [hb, cond_false, stands_iff tag ht r (cur ++ [c]) (by simp [hc]; exact fun e => h10 e.symm)]
      simp
theorem stands_contains {tag l : List UInt8} (ht : (10 : UInt8) ∉ tag) : Lib.contains (10 :: l) (10 :: (tag ++ [10])) = standsL tag [] l := by
  rw [Bool.eq_iff_iff, contains_iff, stands_iff tag ht l [] (by simp)]
  simp
theorem name_mem {l : List UInt8} (h : nameL l = true) {c : UInt8} (hc : c ∈ l) : nmB false c = true := by
  rw [nameL, Bool.and_eq_true, List.all_eq_true] at h
  obtain ⟨i, hi, e⟩ := List.mem_iff_getElem.1 hc
  have := h.2 i (List.mem_range.2 hi)
  rw [List.getD_eq_getElem?_getD, List.getElem?_eq_getElem hi, Option.getD_some, e] at this
  rw [nmB_iff] at this ⊢
  rcases this with h | h | h
  · exact .inl h
  · exact .inr (.inl h)
  · exact .inr (.inr ⟨rfl, h.2⟩)
theorem name_no10 {l : List UInt8} (h : nameL l = true) : (10 : UInt8) ∉ l := fun hc => by
  have := name_mem h hc
  revert this
  decide +kernel
theorem name_no61 {l : List UInt8} (h : nameL l = true) : (61 : UInt8) ∉ l := fun hc => by
  have := name_mem h hc
  revert this
  decide +kernel

/-! ### a word that may be a command's first one -/
def eqB (s : List UInt8) : Bool := (List.range s.length).any fun i => s.getD i 0 == 61 && nameL (s.take i)
theorem eqB_cut (s : List UInt8) : ((Lib.cut s [61]).2.2 && nameL (Lib.cut s [61]).1) = eqB s := by
  rw [Bool.eq_iff_iff, eqB, List.any_eq_true]
  constructor
  · intro h
    rw [Bool.and_eq_true] at h
    rw [Lib.cut] at h
    split at h
    · rename_i hi
      rcases Lib.index_spec s [61] with ⟨h1, _⟩ | ⟨i, h1, h2, h3, _⟩
      · omega
      · rw [h1] at h
        simp only [Int.toNat_natCast] at h
        rw [Lib.occAt] at h3
        obtain ⟨b, hb⟩ := List.isPrefixOf_iff_prefix.1 h3
        have hlt : i < s.length := by
          have := congrArg List.length hb
          simp at this
          omega
        have hget : s.getD i 0 = 61 := by
          have e : (s.drop i)[0]? = some 61 := by rw [← hb]; rfl
          rw [List.getElem?_drop, Nat.add_zero] at e
          rw [List.getD_eq_getElem?_getD, e]; rfl
        exact ⟨i, List.mem_range.2 hlt, by rw [hget, h.2]; rfl⟩
    · simp at h
  · rintro ⟨i, hi, h⟩
    rw [Bool.and_eq_true, beq_iff_eq] at h
    have hlt := List.mem_range.1 hi
    have hidx : Lib.index s [61] = i := Lib.index_first (Nat.le_of_lt hlt) (by
        rw [Lib.occAt, List.isPrefixOf_iff_prefix, drop_getD s hlt, h.1]
        exact ⟨_, rfl⟩) fun j hj => by
      rw [Lib.occAt, Bool.eq_false_iff, ne_eq, List.isPrefixOf_iff_prefix]
      rintro ⟨b, hb⟩
      have e : (s.drop j)[0]? = some 61 := by rw [← hb]; rfl
      rw [List.getElem?_drop, Nat.add_zero] at e
      refine name_no61 h.2 (List.mem_of_getElem? (i := j) ?_)
      rw [List.getElem?_take_of_lt hj, e]
    rw [Lib.cut, hidx, if_pos (by omega)]
    simp only [Int.toNat_natCast]
    rw [h.2]; rfl
def rfirstB (w : List Pt) : Bool := match w with
  | [] => true
  | p :: l => bif p.kind == 1 && !p.quoted then (!eqB (L p.text) && !(l.isEmpty && oneB reservedWs (L p.text))) else true
theorem rfirst_eq (w : List Pt) : rfirstB w = firstB w := by
  cases w with
  | nil => rfl
  | cons p l => rw [rfirstB, firstB, eqB_cut]

/-! ### a part behind another one -/
def confB (q : Option Pt) (p : Pt) : Bool := match q with
  | none => false
  | some x => x.kind == 1 && ((p.kind == 1 && x.quoted == p.quoted) || ((x.quoted && (L x.text).isEmpty) && p.quoted))
theorem part_conf (wd : List Pt → Bool) (ls : List Nd → Bool) (q : Option Pt) (p : Pt) : partB wd ls q p = (partB wd ls none p && !confB q p) := by
  cases q with
  | none => simp [confB]
  | some x =>
    simp only [partB, litB, hollowB, besideB, confB]
    generalize (x.kind == 1) = a
    generalize (L x.text).isEmpty = b
    generalize (L p.op).isEmpty = c
    generalize (p.word.isEmpty && p.body.isEmpty) = d
    generalize (bif p.quoted then !hasB (L p.text) 0 else (L p.text).all bareB && !(L p.text).isEmpty) = e
    generalize paramB wd p = f
    cases p.kind == 1
    · cases a <;> cases b <;> cases x.quoted <;> cases p.quoted <;> simp
    · cases a <;> cases b <;> cases x.quoted <;> cases p.quoted <;> cases c <;> cases d <;> cases e <;> rfl
end Go.Proofs.YtnackmnoldkihaaGreatDoor
