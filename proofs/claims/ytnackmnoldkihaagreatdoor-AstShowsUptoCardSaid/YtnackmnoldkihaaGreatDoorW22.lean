/-
  The walk of small.
-/
import Derived.Test.YtnackmnoldkihaaGreatDoorW21
import Derived.Test.YtnackmnoldkihaaGreatDoorW8
import Derived.Test.YtnackmnoldkihaaGreatDoorW11
import Derived.Deep.RegionHeld3
set_option linter.unusedVariables false
set_option linter.unusedSimpArgs false
/-
  The anchor's commands, as they lie.
-/
namespace Go.Proofs.YtnackmnoldkihaaGreatDoor
open Go.RowKit

theorem Sl.blk {w : World} {g B n size : Nat} {t : TypeId} {cs : Array Value} (h : Blk w g t cs) (hs : cs.size = n * size) (hn : n ≤ maxLen) (hB : g < B) : Sl w B size (.slice (some ⟨g, 0, none⟩) n n) n cs.toList := by
 refine ⟨by simp [hs], some ⟨g, 0, none⟩, n, rfl, Nat.le_refl _, hn, .inr ⟨g, 0, rfl, hB, ?_⟩⟩
 intro j _
 rw [Nat.zero_add, h.cell j]
 simp
def litP (q : Bool) (t : ByteArray) : Pt := .mk 1 q t ByteArray.empty [] []
def anchorN : Nd := .mk 1 ByteArray.empty [] [[litP false ⟨#[101, 99, 104, 111]⟩], [litP true ⟨#[97, 32, 98]⟩]] [⟨1, ⟨#[62]⟩, ByteArray.empty, [litP false ⟨#[120]⟩]⟩] [] []
theorem anchor_ok : okL 2 [anchorN] = true := by decide +kernel
theorem anchor_show : showL 2 [anchorN] = [101, 99, 104, 111, 32, 39, 97, 32, 98, 39, 32, 49, 62, 120, 10] := by decide +kernel
theorem SlOf.nil {α : Type} {w : World} {B size : Nat} {F : α → List Value → Prop} : SlOf w B size F [] (.slice none 0 0) :=
 ⟨Nat.zero_le _, [], rfl, fun c hc => by simp at hc, Sl.nil w B size, fun i x c hx => by simp at hx⟩
theorem SlOf.one {α : Type} {w : World} {B size g : Nat} {t : TypeId} {cs : Array Value} {F : α → List Value → Prop} {x : α} (h : Blk w g t cs) (hs : cs.size = size) (hB : g < B) (hF : F x cs.toList) : SlOf w B size F [x] (.slice (some ⟨g, 0, none⟩) 1 1) := by
 refine ⟨(by simp [bigN] : [x].length ≤ bigN), [cs.toList], rfl, fun c hc => by simp at hc; rw [hc]; simpa using hs, ?_, fun i y c hy hc => ?_⟩
 · have h1 := Sl.blk (n := 1) (size := size) h (by omega) (by decide) hB
   simpa using h1
 · cases i with
   | zero => simp at hy hc; subst hy; subst hc; exact hF
   | succ i => simp at hy
theorem pts_nil (w : World) (B d : Nat) : PtsIn w B d [] (.slice none 0 0) := by cases d <;> (rw [PtsIn]; exact SlOf.nil)
theorem nds_nil (w : World) (B d : Nat) : NdsIn w B d [] (.slice none 0 0) := by cases d <;> (rw [NdsIn]; exact SlOf.nil)
theorem lit_in {w : World} {B g d : Nat} {q : Bool} {t : ByteArray} (h : Blk w g 44 #[.int .i64 1, .bool q, .string t, .string ByteArray.empty, .slice none 0 0, .slice none 0 0]) (ht : t.size ≤ bigN) (hB : g < B) : PtsIn w B (d + 1) [litP q t] (.slice (some ⟨g, 0, none⟩) 1 1) := by
 rw [PtsIn.succ]
 exact SlOf.one h rfl hB ⟨ht, Nat.zero_le _, _, _, rfl, pts_nil w B d, nds_nil w B d⟩
theorem anchor_in {w : World} {B g0 g1 g2 g3 g4 g6 : Nat}
 (h0 : Blk w g0 44 #[.int .i64 1, .bool false, .string ⟨#[101, 99, 104, 111]⟩, .string ByteArray.empty, .slice none 0 0, .slice none 0 0])
 (h1 : Blk w g1 44 #[.int .i64 1, .bool true, .string ⟨#[97, 32, 98]⟩, .string ByteArray.empty, .slice none 0 0, .slice none 0 0])
 (h2 : Blk w g2 29 #[.slice (some ⟨g0, 0, none⟩) 1 1, .slice (some ⟨g1, 0, none⟩) 1 1])
 (h3 : Blk w g3 44 #[.int .i64 1, .bool false, .string ⟨#[120]⟩, .string ByteArray.empty, .slice none 0 0, .slice none 0 0])
 (h4 : Blk w g4 31 #[.int .i64 1, .string ⟨#[62]⟩, .string ByteArray.empty, .slice (some ⟨g3, 0, none⟩) 1 1])
 (h6 : Blk w g6 38 #[.int .i64 1, .string ByteArray.empty, .slice none 0 0, .slice (some ⟨g2, 0, none⟩) 2 2, .slice (some ⟨g4, 0, none⟩) 1 1, .slice none 0 0, .slice none 0 0])
 (b0 : g0 < B) (b1 : g1 < B) (b2 : g2 < B) (b3 : g3 < B) (b4 : g4 < B) (b6 : g6 < B) : NdsIn w B 2 [anchorN] (.slice (some ⟨g6, 0, none⟩) 1 1) := by
 rw [NdsIn.succ]
 refine SlOf.one h6 rfl b6 ⟨by decide, _, _, _, _, _, rfl, SlOf.nil, ?_, ?_, SlOf.nil, SlOf.nil⟩
 · refine ⟨by decide, [[.slice (some ⟨g0, 0, none⟩) 1 1], [.slice (some ⟨g1, 0, none⟩) 1 1]], rfl, fun c hc => by simp at hc; rcases hc with rfl | rfl <;> rfl, Sl.blk (n := 2) (size := 1) h2 rfl (by decide) b2, fun i y c hy hc => ?_⟩
   match i, hy, hc with
   | 0, hy, hc => cases hy; cases hc; exact ⟨_, rfl, lit_in h0 (by decide) b0⟩
   | 1, hy, hc => cases hy; cases hc; exact ⟨_, rfl, lit_in h1 (by decide) b1⟩
 · exact SlOf.one h4 rfl b4 ⟨by decide, by decide, by decide, _, rfl, lit_in h3 (by decide) b3⟩
end Go.Proofs.YtnackmnoldkihaaGreatDoor
/-
  The walk of the anchor.
-/
namespace Go.Proofs.YtnackmnoldkihaaGreatDoor
open Go.RowKit

set_option maxHeartbeats 2000000 in
set_option maxRecDepth 100000 in
theorem anchor_any (w : World) (hv : Held w) (hH : Hd w w.heap.size) :
 Calls Tryz.prog 7 #[] w fun e w' => e = .returned (.bool true) ∧ Below w.heap.size w w' := by
 obtain ⟨U0, hU0⟩ : ∃ U0, U0 = ((((((w.alloc (.cells #[.int .i64 1, .bool false, .string ⟨#[101, 99, 104, 111]⟩, .string ⟨#[]⟩, .slice none 0 0, .slice none 0 0] 44)).alloc (.cells #[.int .i64 1, .bool true, .string ⟨#[97, 32, 98]⟩, .string ⟨#[]⟩, .slice none 0 0, .slice none 0 0] 44)).alloc (.cells #[.slice (some ⟨w.heap.size, 0, none⟩) 1 1, .slice (some ⟨w.heap.size + 1, 0, none⟩) 1 1] 29)).alloc (.cells #[.int .i64 1, .bool false, .string ⟨#[120]⟩, .string ⟨#[]⟩, .slice none 0 0, .slice none 0 0] 44)).alloc (.cells #[.int .i64 1, .string ⟨#[62]⟩, .string ⟨#[]⟩, .slice (some ⟨w.heap.size + 1 + 1 + 1, 0, none⟩) 1 1] 31)).alloc (.cells #[.int .i64 1, .string ⟨#[]⟩, .slice none 0 0, .slice (some ⟨w.heap.size + 1 + 1, 0, none⟩) 2 2, .slice (some ⟨w.heap.size + 1 + 1 + 1 + 1, 0, none⟩) 1 1, .slice none 0 0, .slice none 0 0] 38)) := ⟨_, rfl⟩
 obtain ⟨U, hU⟩ : ∃ U, U = U0.alloc (.cells #[.int .i64 1, .string ⟨#[]⟩, .slice none 0 0, .slice (some ⟨w.heap.size + 1 + 1, 0, none⟩) 2 2, .slice (some ⟨w.heap.size + 1 + 1 + 1 + 1, 0, none⟩) 1 1, .slice none 0 0, .slice none 0 0] 38) := ⟨_, rfl⟩
 have hz : U.heap.size = w.heap.size + 1 + 1 + 1 + 1 + 1 + 1 + 1 := by rw [hU, hU0]; simp
 have h0 : Blk U w.heap.size 44 #[.int .i64 1, .bool false, .string ⟨#[101, 99, 104, 111]⟩, .string ByteArray.empty, .slice none 0 0, .slice none 0 0] := by rw [hU, hU0]; exact ((((((Blk.at rfl).alloc _).alloc _).alloc _).alloc _).alloc _).alloc _
 have h1 : Blk U (w.heap.size + 1) 44 #[.int .i64 1, .bool true, .string ⟨#[97, 32, 98]⟩, .string ByteArray.empty, .slice none 0 0, .slice none 0 0] := by rw [hU, hU0]; exact (((((Blk.at (by simp)).alloc _).alloc _).alloc _).alloc _).alloc _
 have h2 : Blk U (w.heap.size + 1 + 1) 29 #[.slice (some ⟨w.heap.size, 0, none⟩) 1 1, .slice (some ⟨w.heap.size + 1, 0, none⟩) 1 1] := by rw [hU, hU0]; exact ((((Blk.at (by simp)).alloc _).alloc _).alloc _).alloc _
 have h3 : Blk U (w.heap.size + 1 + 1 + 1) 44 #[.int .i64 1, .bool false, .string ⟨#[120]⟩, .string ByteArray.empty, .slice none 0 0, .slice none 0 0] := by rw [hU, hU0]; exact (((Blk.at (by simp)).alloc _).alloc _).alloc _
 have h4 : Blk U (w.heap.size + 1 + 1 + 1 + 1) 31 #[.int .i64 1, .string ⟨#[62]⟩, .string ByteArray.empty, .slice (some ⟨w.heap.size + 1 + 1 + 1, 0, none⟩) 1 1] := by rw [hU, hU0]; exact ((Blk.at (by simp)).alloc _).alloc _
 have h6 : Blk U (w.heap.size + 1 + 1 + 1 + 1 + 1 + 1) 38 #[.int .i64 1, .string ByteArray.empty, .slice none 0 0, .slice (some ⟨w.heap.size + 1 + 1, 0, none⟩) 2 2, .slice (some ⟨w.heap.size + 1 + 1 + 1 + 1, 0, none⟩) 1 1, .slice none 0 0, .slice none 0 0] := by rw [hU, hU0]; exact Blk.at (by simp)
 have hbU : Below w.heap.size w U := by rw [hU, hU0]; exact bg
 have HIN : Hid (NdsIn U U.heap.size 2 [anchorN] (.slice (some ⟨w.heap.size + 1 + 1 + 1 + 1 + 1 + 1, 0, none⟩) 1 1)) := Lib.hid (anchor_in h0 h1 h2 h3 h4 h6 (by omega) (by omega) (by omega) (by omega) (by omega) (by omega))
 have CR := Lib.hid (right_any [anchorN] _ 2 U 2 (by decide) (hv.below hv.2 hbU) HIN.out)
 rw [show (okL (2 : Int).toNat [anchorN]) = true from anchor_ok] at CR
 have h5 : Blk U (w.heap.size + 1 + 1 + 1 + 1 + 1) 38 #[.int .i64 1, .string ByteArray.empty, .slice none 0 0, .slice (some ⟨w.heap.size + 1 + 1, 0, none⟩) 2 2, .slice (some ⟨w.heap.size + 1 + 1 + 1 + 1, 0, none⟩) 1 1, .slice none 0 0, .slice none 0 0] := by rw [hU, hU0]; exact (Blk.at (by simp)).alloc _
 have HK0 := Lib.hid h0
 have HK1 := Lib.hid h1
 have HK2 := Lib.hid h2
 have HK3 := Lib.hid h3
 have HK4 := Lib.hid h4
 have HK5 := Lib.hid h5
 rw [hU0] at hU
 have HU := Lib.hid hU
 clear hU hU0 h0 h1 h2 h3 h4 h5 h6
 go_enter Tryz.func7, Tryz.ntmps7
 go_wp2_with fail
 rw [← HU.out]
 refine CR.out.mono ?_
 rintro e w1 ⟨rfl, hb1⟩
 have HK := Lib.hid (HK5.out.below hb1 HK5.out.lt)
 obtain ⟨W, hW⟩ : ∃ W, W = w1.alloc (.cells #[.int .i64 1, .string ByteArray.empty, .slice none 0 0, .slice (some ⟨w.heap.size + 1 + 1, 0, none⟩) 2 2, .slice (some ⟨w.heap.size + 1 + 1 + 1 + 1, 0, none⟩) 1 1, .slice none 0 0, .slice none 0 0] 38) := ⟨_, rfl⟩
 have hb2 : Below U.heap.size U W := by rw [hW]; exact hb1.alloc hb1.size _
 have h6 : Blk W w1.heap.size 38 #[.int .i64 1, .string ByteArray.empty, .slice none 0 0, .slice (some ⟨w.heap.size + 1 + 1, 0, none⟩) 2 2, .slice (some ⟨w.heap.size + 1 + 1 + 1 + 1, 0, none⟩) 1 1, .slice none 0 0, .slice none 0 0] := by rw [hW]; exact Blk.new _ _ _
 have hin := anchor_in (B := W.heap.size) (HK0.out.below hb2 HK0.out.lt) (HK1.out.below hb2 HK1.out.lt) (HK2.out.below hb2 HK2.out.lt) (HK3.out.below hb2 HK3.out.lt) (HK4.out.below hb2 HK4.out.lt) h6 (Nat.lt_of_lt_of_le HK0.out.lt hb2.size) (Nat.lt_of_lt_of_le HK1.out.lt hb2.size) (Nat.lt_of_lt_of_le HK2.out.lt hb2.size) (Nat.lt_of_lt_of_le HK3.out.lt hb2.size) (Nat.lt_of_lt_of_le HK4.out.lt hb2.size) h6.lt
 have hbW : Below w.heap.size w W := hbU.trans (hb2.mono hbU.size)
 have CS := Lib.hid (show_right 2 2 [anchorN] _ W (by have := hH.below hbW; exact ⟨this.1, Nat.lt_of_lt_of_le this.2 hbW.size⟩) hin anchor_ok (by rw [anchor_show]; decide))
 rw [anchor_show] at CS
 have HW := Lib.hid hW
 have HBW := Lib.hid hbW
 have hl5 := HK.out.lt
 obtain ⟨p0, p1, p2, p3, p4, p5, p6, pl⟩ := HK.out.box7
 clear hb1 hb2 h6 hin hbW hW
 go_wp2_with fail
 rw [← HW.out]
 refine CS.out.mono ?_
 rintro e w3 ⟨rfl, hb3⟩
 have HB3 := Lib.hid (HBW.out.trans (hb3.mono HBW.out.size))
 clear hb3
 have hq : ((S [101, 99, 104, 111, 32, 39, 97, 32, 98, 39, 32, 49, 62, 120, 10]).toList == [101, 99, 104, 111, 32, 39, 97, 32, 98, 39, 32, 49, 62, 120, 10]) = true := by decide +kernel
 go_wp2_with fail
 go_ret
 exact ⟨rfl, HB3.out⟩
end Go.Proofs.YtnackmnoldkihaaGreatDoor
/-
  The walks of Size and parts: some number.
-/
namespace Go.Proofs.YtnackmnoldkihaaGreatDoor
open Go.RowKit

/-- Some number is returned; what was there stays. -/
def SomeInt (w : World) (e : Ending) (w' : World) : Prop := ∃ z : Int, e = .returned (.int .i64 z) ∧ Below w.heap.size w w'
def PartsZ (d : Nat) : Prop := ∀ (W : World) (l : List Pt) (v : Value) (m q : Int), PtsIn W W.heap.size d l v → Calls Tryz.prog 51 #[v, .int .i64 m, .int .i64 q] W (SomeInt W)
def SizeZ (d : Nat) : Prop := ∀ (W : World) (l : List Nd) (v : Value) (m q : Int), NdsIn W W.heap.size d l v → Calls Tryz.prog 37 #[v, .int .i64 m, .int .i64 q] W (SomeInt W)

set_option maxHeartbeats 2000000 in
set_option maxRecDepth 100000 in
theorem parts_step (d : Nat) (hPZ : PartsZ d) (hSZ : SizeZ d) (l : List Pt) (v : Value) (m q : Int) (w : World) (hl : SlOf w w.heap.size 6 (PtC w w.heap.size d) l v) :
 Calls Tryz.prog 51 #[v, .int .i64 m, .int .i64 q] w (SomeInt w) := by
 obtain ⟨a, cap, rfl, hz⟩ := hl.len
 obtain ⟨n, hn⟩ : ∃ n, l.length = n := ⟨_, rfl⟩
 rw [hn] at hl hz ⊢
 have HL := Lib.hid hl
 have HN := Lib.hid hn
 have HPZ := Lib.hid hPZ
 have HSZ := Lib.hid hSZ
 clear hl hn hPZ hSZ
 go_enter Tryz.func51, Tryz.ntmps51
 go_wp2_with fail
 go_loopw [7, 12] (fun t i W => ∃ (k : Nat) (z : Int), k ≤ n ∧ i = .int .i64 k ∧ t = .int .i64 z ∧ Below w.heap.size w W) (fun _ i _ => n - (intOf i).toNat)
 case atStart => exact ⟨0, 0, Nat.zero_le _, rfl, rfl, Below.refl _ _⟩
 case round =>
  obtain ⟨k, z, hk, rfl, rfl, hB⟩ := hrel
  have hBz := hB.size
  by_cases hlt : k < n
  · obtain ⟨x, hx⟩ : ∃ x, l[k]? = .some x := ⟨_, List.getElem?_eq_getElem (by rw [HN.out]; exact hlt)⟩
    obtain ⟨b, o, c, hi, hbB, hce, hC, _⟩ := HL.out.at 29 44 Tryz.underlying29 (by kernel_rfl) hx
    obtain ⟨a1, c1, a2, c2, rfl, ⟨hxz, _⟩, _, hP, hS⟩ := hC.open
    have HP : Hid (∀ W, Below w.heap.size w W → ∀ m q : Int, Calls Tryz.prog 51 #[.slice a1 x.word.length c1, .int .i64 m, .int .i64 q] W (SomeInt W)) := Lib.hid fun W hW m q => HPZ.out W _ _ m q (hP.later hW)
    have HS : Hid (∀ W, Below w.heap.size w W → ∀ m q : Int, Calls Tryz.prog 37 #[.slice a2 x.body.length c2, .int .i64 m, .int .i64 q] W (SomeInt W)) := Lib.hid fun W hW m q => HSZ.out W _ _ m q (hS.later hW)
    have e0 := (hB.cell hbB).trans (hce 0 _ rfl)
    have e1 := (hB.cell hbB).trans (hce 1 _ rfl)
    have e2 := (hB.cell hbB).trans (hce 2 _ rfl)
    have e3 := (hB.cell hbB).trans (hce 3 _ rfl)
    have e4 := (hB.cell hbB).trans (hce 4 _ rfl)
    have e5 := (hB.cell hbB).trans (hce 5 _ rfl)
    have hbB' := Nat.lt_of_lt_of_le hbB hB.size
    rw [Nat.add_zero] at e0
    clear hx hce hP hS
    by_cases hg : m < wrap64 (z + 1) ∨ q ≤ 0
    · by_cases g0 : m < wrap64 (z + 1)
      · have g1 : decide (m < wrap64 (z + 1)) = true := by simp [g0]
        clear hg g0
        go_wp2
        go_ret
        exact ⟨_, rfl, bg⟩
      · have g1 : decide (m < wrap64 (z + 1)) = false := by simp; omega
        have g2 : decide (q ≤ 0) = true := by simp; omega
        clear hg g0
        go_wp2
        go_ret
        exact ⟨_, rfl, bg⟩
    · have g1 : decide (m < wrap64 (z + 1)) = false := by simp; omega
      have g2 : decide (q ≤ 0) = false := by simp; omega
      clear hg
      go_upto_region 8 with fail
      obtain ⟨X, hX⟩ : ∃ X, X = wr.alloc (.cells #[.int .i64 x.kind, .bool x.quoted, .string x.text, .string x.op, .slice a1 x.word.length c1, .slice a2 x.body.length c2] 44) := ⟨_, rfl⟩
      have hBX : Below w.heap.size w X := by rw [hX]; exact bg
      have x2 : X.cell? ⟨wr.heap.size, 2, none⟩ = some (.string x.text) := by rw [hX]; simp
      have x4 : X.cell? ⟨wr.heap.size, 4, none⟩ = some (.slice a1 x.word.length c1) := by rw [hX]; simp
      have x5 : X.cell? ⟨wr.heap.size, 5, none⟩ = some (.slice a2 x.body.length c2) := by rw [hX]; simp
      have hgX : wr.heap.size < X.heap.size := by rw [hX]; simp
      rw [← hX]
      clear hX
      have CP : Hid (∀ (W : World) (q : Int), Below X.heap.size X W → Calls Tryz.prog 51 #[.slice a1 x.word.length c1, .int .i64 m, .int .i64 q] W fun e w' => ∃ z : Int, e = .returned (.int .i64 z) ∧ Below X.heap.size X w') := Lib.hid fun W q hW => (HP.out W (hBX.trans (hW.mono hBX.size)) m q).mono fun e w' ⟨z, h1, h2⟩ => ⟨z, h1, hW.trans (h2.mono hW.size)⟩
      have CS : Hid (∀ (W : World) (q : Int), Below X.heap.size X W → Calls Tryz.prog 37 #[.slice a2 x.body.length c2, .int .i64 m, .int .i64 q] W fun e w' => ∃ z : Int, e = .returned (.int .i64 z) ∧ Below X.heap.size X w') := Lib.hid fun W q hW => (HS.out W (hBX.trans (hW.mono hBX.size)) m q).mono fun e w' ⟨z, h1, h2⟩ => ⟨z, h1, hW.trans (h2.mono hW.size)⟩
      go_region_held3 (fun w' => w'.cell? ⟨wr.heap.size, 2, none⟩ = some (.string x.text) ∧ w'.cell? ⟨wr.heap.size, 4, none⟩ = some (.slice a1 x.word.length c1) ∧ w'.cell? ⟨wr.heap.size, 5, none⟩ = some (.slice a2 x.body.length c2)) (go_keep)
       (first
        | (go_at_call 51; with_reducible refine (CP.out _ _ bg).mono ?_; rintro e w1 ⟨z1, rfl, hb1⟩; have d2 := (hb1.cell hgX).trans x2; have d4 := (hb1.cell hgX).trans x4; have d5 := (hb1.cell hgX).trans x5)
        | (go_at_call 37; with_reducible refine (CS.out _ _ bg).mono ?_; rintro e w1 ⟨z1, rfl, hb1⟩; have d2 := (hb1.cell hgX).trans x2; have d4 := (hb1.cell hgX).trans x4; have d5 := (hb1.cell hgX).trans x5))
      all_goals
       go_wp2_with fail
       go_roundw
       case rel => exact ⟨k + 1, _, by omega, by go_num, rfl, hBX.trans (Below.mono (B := X.heap.size) bg hBX.size)⟩
       case measure => simp [intOf]; omega
  · go_wp2
    go_ret
    exact ⟨_, rfl, hB⟩
end Go.Proofs.YtnackmnoldkihaaGreatDoor
/-
  The walk of Size.
-/
namespace Go.Proofs.YtnackmnoldkihaaGreatDoor
open Go.RowKit

set_option maxHeartbeats 4000000 in
set_option maxRecDepth 100000 in
theorem size_step (d : Nat) (hPZ : PartsZ d) (hSZ : SizeZ d) (l : List Nd) (v : Value) (m q : Int) (w : World) (hl : SlOf w w.heap.size 7 (NdC w w.heap.size d) l v) :
 Calls Tryz.prog 37 #[v, .int .i64 m, .int .i64 q] w (SomeInt w) := by
 obtain ⟨a, cap, rfl, hz⟩ := hl.len
 obtain ⟨n, hn⟩ : ∃ n, l.length = n := ⟨_, rfl⟩
 rw [hn] at hl hz ⊢
 have HL := Lib.hid hl
 have HN := Lib.hid hn
 have HPZ := Lib.hid hPZ
 have HSZ := Lib.hid hSZ
 clear hl hn hPZ hSZ
 go_enter Tryz.func37, Tryz.ntmps37
 go_wp2_with fail
 go_loopw [7, 24] (fun t i W => ∃ (k : Nat) (z : Int), k ≤ n ∧ i = .int .i64 k ∧ t = .int .i64 z ∧ Below w.heap.size w W) (fun _ i _ => n - (intOf i).toNat)
 case atStart => exact ⟨0, 0, Nat.zero_le _, rfl, rfl, Below.refl _ _⟩
 case round =>
  obtain ⟨k, z, hk, rfl, rfl, hB⟩ := hrel
  have hBz := hB.size
  by_cases hlt : k < n
  · obtain ⟨x, hx⟩ : ∃ x, l[k]? = .some x := ⟨_, List.getElem?_eq_getElem (by rw [HN.out]; exact hlt)⟩
    obtain ⟨b, o, c, hi, hbB, hce, hC, _⟩ := HL.out.at 22 38 Tryz.underlying22 (by kernel_rfl) hx
    obtain ⟨a1, c1, a2, c2, a3, c3, a4, c4, a5, c5, rfl, hxz, ⟨hn1, hn2, hn3, hn4, hn5⟩, hA, hW, hRd, hLs, hAr⟩ := hC.open
    have e0 := (hB.cell hbB).trans (hce 0 _ rfl)
    have e1 := (hB.cell hbB).trans (hce 1 _ rfl)
    have e2 := (hB.cell hbB).trans (hce 2 _ rfl)
    have e3 := (hB.cell hbB).trans (hce 3 _ rfl)
    have e4 := (hB.cell hbB).trans (hce 4 _ rfl)
    have e5 := (hB.cell hbB).trans (hce 5 _ rfl)
    have e6 := (hB.cell hbB).trans (hce 6 _ rfl)
    have hbB' := Nat.lt_of_lt_of_le hbB hB.size
    rw [Nat.add_zero] at e0
    obtain ⟨n1, hl1⟩ : ∃ n, x.assigns.length = n := ⟨_, rfl⟩
    obtain ⟨n2, hl2⟩ : ∃ n, x.words.length = n := ⟨_, rfl⟩
    obtain ⟨n3, hl3⟩ : ∃ n, x.redirs.length = n := ⟨_, rfl⟩
    obtain ⟨n4, hl4⟩ : ∃ n, x.lists.length = n := ⟨_, rfl⟩
    obtain ⟨n5, hl5⟩ : ∃ n, x.arms.length = n := ⟨_, rfl⟩
    rw [hl1] at e2 hn1 hA
    rw [hl2] at e3 hn2 hW
    rw [hl3] at e4 hn3 hRd
    rw [hl4] at e5 hn4 hLs
    rw [hl5] at e6 hn5 hAr
    have HA := Lib.hid hA
    have HW := Lib.hid hW
    have HRD := Lib.hid hRd
    have HLS := Lib.hid hLs
    have HAR := Lib.hid hAr
    have N1 := Lib.hid hl1
    have N2 := Lib.hid hl2
    have N3 := Lib.hid hl3
    have N4 := Lib.hid hl4
    have N5 := Lib.hid hl5
    clear hx hce hA hW hRd hLs hAr hl1 hl2 hl3 hl4 hl5 hC
    by_cases hg : m < wrap64 (z + 1) ∨ q = 0
    · by_cases g0 : m < wrap64 (z + 1)
      · have g1 : decide (m < wrap64 (z + 1)) = true := by simp [g0]
        clear hg g0
        go_wp2
        go_ret
        exact ⟨_, rfl, bg⟩
      · have g1 : decide (m < wrap64 (z + 1)) = false := by simp; omega
        have g2 : (q == 0) = true := by simp; omega
        clear hg g0
        go_wp2
        go_ret
        exact ⟨_, rfl, bg⟩
    · have g1 : decide (m < wrap64 (z + 1)) = false := by simp; omega
      have g2 : (q == 0) = false := by simp; omega
      clear hg
      obtain ⟨g, hgd⟩ : ∃ g, g = wr.heap.size := ⟨_, rfl⟩
      have hgB : w.heap.size ≤ g := by omega
      have HST : Hid (∀ (cs : Array Value), Blk (wr.alloc (.cells cs 38)) g 38 cs) := Lib.hid fun cs => Blk.at hgd
      go_wp2_with fail
      rw [← hgd]
      clear e0 e1 e2 e3 e4 e5 e6 hi hgd
      go_loopw [7, 47]
       (fun t i W => ∃ (j : Nat) (z : Int), j ≤ n1 ∧ i = .int .i64 j ∧ t = .int .i64 z ∧ Blk W g 38 #[.int .i64 x.kind, .string x.name, .slice a1 n1 c1, .slice a2 n2 c2, .slice a3 n3 c3, .slice a4 n4 c4, .slice a5 n5 c5] ∧ Below w.heap.size w W) (fun _ i _ => n1 - (intOf i).toNat)
      case atStart => exact ⟨0, _, Nat.zero_le _, rfl, rfl, HST.out _, bg⟩
      case round =>
       obtain ⟨j, z, hj, rfl, rfl, hbk, hB⟩ := hrel
       have HBK := Lib.hid hbk
       have hBz := hB.size
       clear hbk
       obtain ⟨p0, p1, p2, p3, p4, p5, p6, pl⟩ := HBK.out.box7
       by_cases hlt1 : j < n1
       · obtain ⟨y, hy⟩ : ∃ y, x.assigns[j]? = .some y := ⟨_, List.getElem?_eq_getElem (by rw [N1.out]; exact hlt1)⟩
         obtain ⟨b, o, c, hi, hbB, hce, hC, _⟩ := HA.out.at 33 94 Tryz.underlying33 (by kernel_rfl) hy
         obtain ⟨a6, c6, rfl, hyz, hyl, hP⟩ := hC.open
         have e0 := (hB.cell hbB).trans (hce 0 _ rfl)
         have e1 := (hB.cell hbB).trans (hce 1 _ rfl)
         have hbB' := Nat.lt_of_lt_of_le hbB hB.size
         rw [Nat.add_zero] at e0
         clear hy hce hC
         go_wp2_with fail
         obtain ⟨X, hX⟩ : ∃ X, X = wr.alloc (.cells #[.string y.name, .slice a6 y.word.length c6] 94) := ⟨_, rfl⟩
         have HBX : Hid (Below wr.heap.size wr X) := Lib.hid (by rw [hX]; exact bg)
         have x0 : X.cell? ⟨wr.heap.size, 0, none⟩ = some (.string y.name) := by rw [hX]; simp
         have x1 : X.cell? ⟨wr.heap.size, 1, none⟩ = some (.slice a6 y.word.length c6) := by rw [hX]; simp
         have hgX : wr.heap.size < X.heap.size := by rw [hX]; simp
         rw [← hX]
         clear hX
         have hBX : Below w.heap.size w X := hB.trans (HBX.out.mono hBz)
         have CP : Hid (∀ (W : World) (q : Int), Below X.heap.size X W → Calls Tryz.prog 51 #[.slice a6 y.word.length c6, .int .i64 m, .int .i64 q] W fun e w' => ∃ z : Int, e = .returned (.int .i64 z) ∧ Below X.heap.size X w') := Lib.hid fun W q hW => (HPZ.out W _ _ m q (hP.later (hBX.trans (hW.mono hBX.size)))).mono fun e w' ⟨z, h1, h2⟩ => ⟨z, h1, hW.trans (h2.mono hW.size)⟩
         clear hP
         go_region_held3 (fun w' => w'.cell? ⟨wr.heap.size, 0, none⟩ = some (.string y.name) ∧ w'.cell? ⟨wr.heap.size, 1, none⟩ = some (.slice a6 y.word.length c6)) (go_keep)
          ((go_at_call 51; with_reducible refine (CP.out _ _ bg).mono ?_; rintro e w1 ⟨z1, rfl, hb1⟩; have d0 := (hb1.cell hgX).trans x0; have d1 := (hb1.cell hgX).trans x1))
         all_goals
          have hXW : ∀ W, Below X.heap.size X W → Blk W g 38 #[.int .i64 x.kind, .string x.name, .slice a1 n1 c1, .slice a2 n2 c2, .slice a3 n3 c3, .slice a4 n4 c4, .slice a5 n5 c5] ∧ Below w.heap.size w W := fun W hW => ⟨(HBK.out.below HBX.out pl).below hW (by omega), hBX.trans (hW.mono hBX.size)⟩
          have HXW := Lib.hid hXW
          clear hXW
          go_wp2_with fail
          go_roundw
          case rel => exact ⟨j + 1, _, by omega, by go_num, rfl, HXW.out _ bg⟩
          case measure => simp [intOf]; omega
       · go_wp2_with fail
         go_loopw [7, 68]
          (fun t i W => ∃ (j : Nat) (z : Int), j ≤ n2 ∧ i = .int .i64 j ∧ t = .int .i64 z ∧ Blk W g 38 #[.int .i64 x.kind, .string x.name, .slice a1 n1 c1, .slice a2 n2 c2, .slice a3 n3 c3, .slice a4 n4 c4, .slice a5 n5 c5] ∧ Below w.heap.size w W) (fun _ i _ => n2 - (intOf i).toNat)
         case atStart => exact ⟨0, _, Nat.zero_le _, rfl, rfl, HBK.out, hB⟩
         case round =>
          clear p0 p1 p2 p3 p4 p5 p6 pl hB hBz
          obtain ⟨j, z, hj, rfl, rfl, hbk, hB⟩ := hrel
          have HBK := Lib.hid hbk
          have hBz := hB.size
          clear hbk
          obtain ⟨p0, p1, p2, p3, p4, p5, p6, pl⟩ := HBK.out.box7
          by_cases hlt1 : j < n2
          · obtain ⟨y, hy⟩ : ∃ y, x.words[j]? = .some y := ⟨_, List.getElem?_eq_getElem (by rw [N2.out]; exact hlt1)⟩
            obtain ⟨b, o, c, hi, hbB, hce, ⟨yv, rfl, hP⟩, _⟩ := HW.out.at 34 29 Tryz.underlying34 (by kernel_rfl) hy
            obtain ⟨a6, c6, rfl, _⟩ := hP.shape
            have e0 := (hB.cell hbB).trans (hce 0 _ rfl)
            have hbB' := Nat.lt_of_lt_of_le hbB hB.size
            rw [Nat.add_zero] at e0
            have CP : Hid (∀ (W : World) (q : Int), Below w.heap.size w W → Calls Tryz.prog 51 #[.slice a6 y.length c6, .int .i64 m, .int .i64 q] W (SomeInt W)) := Lib.hid fun W q hW => HPZ.out W _ _ m q (hP.later hW)
            clear hy hce hP
            go_wp2_with fail
            refine (CP.out _ _ bg).mono ?_
            rintro e w1 ⟨z1, rfl, hb1⟩
            have HB1 := Lib.hid hb1
            have hB1 : Below w.heap.size w w1 := since hb1 bg
            clear hb1
            go_wp2_with fail
            go_roundw
            case rel => exact ⟨j + 1, _, by omega, by go_num, rfl, HBK.out.below HB1.out HBK.out.lt, hB1⟩
            case measure => simp [intOf]; omega
          · go_wp2_with fail
            go_loopw [7, 84]
             (fun t i W => ∃ (j : Nat) (z : Int), j ≤ n3 ∧ i = .int .i64 j ∧ t = .int .i64 z ∧ Blk W g 38 #[.int .i64 x.kind, .string x.name, .slice a1 n1 c1, .slice a2 n2 c2, .slice a3 n3 c3, .slice a4 n4 c4, .slice a5 n5 c5] ∧ Below w.heap.size w W) (fun _ i _ => n3 - (intOf i).toNat)
            case atStart => exact ⟨0, _, Nat.zero_le _, rfl, rfl, HBK.out, hB⟩
            case round =>
             clear p0 p1 p2 p3 p4 p5 p6 pl hB hBz
             obtain ⟨j, z, hj, rfl, rfl, hbk, hB⟩ := hrel
             have HBK := Lib.hid hbk
             have hBz := hB.size
             clear hbk
             obtain ⟨p0, p1, p2, p3, p4, p5, p6, pl⟩ := HBK.out.box7
             by_cases hlt1 : j < n3
             · obtain ⟨y, hy⟩ : ∃ y, x.redirs[j]? = .some y := ⟨_, List.getElem?_eq_getElem (by rw [N3.out]; exact hlt1)⟩
               obtain ⟨b, o, c, hi, hbB, hce, hC, _⟩ := HRD.out.at 32 31 Tryz.underlying32 (by kernel_rfl) hy
               obtain ⟨a6, c6, rfl, ⟨hyz, hyz2⟩, _, hyl, hP⟩ := hC.open
               have e0 := (hB.cell hbB).trans (hce 0 _ rfl)
               have e1 := (hB.cell hbB).trans (hce 1 _ rfl)
               have e2 := (hB.cell hbB).trans (hce 2 _ rfl)
               have e3 := (hB.cell hbB).trans (hce 3 _ rfl)
               have hbB' := Nat.lt_of_lt_of_le hbB hB.size
               rw [Nat.add_zero] at e0
               clear hy hce hC
               go_wp2_with fail
               obtain ⟨X, hX⟩ : ∃ X, X = wr.alloc (.cells #[.int .i64 y.fd, .string y.op, .string y.tag, .slice a6 y.word.length c6] 31) := ⟨_, rfl⟩
               have HBX : Hid (Below wr.heap.size wr X) := Lib.hid (by rw [hX]; exact bg)
               have x0 : X.cell? ⟨wr.heap.size, 2, none⟩ = some (.string y.tag) := by rw [hX]; simp
               have x1 : X.cell? ⟨wr.heap.size, 3, none⟩ = some (.slice a6 y.word.length c6) := by rw [hX]; simp
               have hgX : wr.heap.size < X.heap.size := by rw [hX]; simp
               rw [← hX]
               clear hX
               have hBX : Below w.heap.size w X := hB.trans (HBX.out.mono hBz)
               have CP : Hid (∀ (W : World) (q : Int), Below X.heap.size X W → Calls Tryz.prog 51 #[.slice a6 y.word.length c6, .int .i64 m, .int .i64 q] W fun e w' => ∃ z : Int, e = .returned (.int .i64 z) ∧ Below X.heap.size X w') := Lib.hid fun W q hW => (HPZ.out W _ _ m q (hP.later (hBX.trans (hW.mono hBX.size)))).mono fun e w' ⟨z, h1, h2⟩ => ⟨z, h1, hW.trans (h2.mono hW.size)⟩
               clear hP
               go_region_held3 (fun w' => w'.cell? ⟨wr.heap.size, 2, none⟩ = some (.string y.tag) ∧ w'.cell? ⟨wr.heap.size, 3, none⟩ = some (.slice a6 y.word.length c6)) (go_keep)
                ((go_at_call 51; with_reducible refine (CP.out _ _ bg).mono ?_; rintro e w1 ⟨z1, rfl, hb1⟩; have d0 := (hb1.cell hgX).trans x0; have d1 := (hb1.cell hgX).trans x1))
               all_goals
                have hXW : ∀ W, Below X.heap.size X W → Blk W g 38 #[.int .i64 x.kind, .string x.name, .slice a1 n1 c1, .slice a2 n2 c2, .slice a3 n3 c3, .slice a4 n4 c4, .slice a5 n5 c5] ∧ Below w.heap.size w W := fun W hW => ⟨(HBK.out.below HBX.out pl).below hW (by omega), hBX.trans (hW.mono hBX.size)⟩
                have HXW := Lib.hid hXW
                clear hXW
                go_wp2_with fail
                go_roundw
                case rel => exact ⟨j + 1, _, by omega, by go_num, rfl, HXW.out _ bg⟩
                case measure => simp [intOf]; omega
             · go_wp2_with fail
               go_loopw [7, 105]
                (fun t i W => ∃ (j : Nat) (z : Int), j ≤ n4 ∧ i = .int .i64 j ∧ t = .int .i64 z ∧ Blk W g 38 #[.int .i64 x.kind, .string x.name, .slice a1 n1 c1, .slice a2 n2 c2, .slice a3 n3 c3, .slice a4 n4 c4, .slice a5 n5 c5] ∧ Below w.heap.size w W) (fun _ i _ => n4 - (intOf i).toNat)
               case atStart => exact ⟨0, _, Nat.zero_le _, rfl, rfl, HBK.out, hB⟩
               case round =>
                clear p0 p1 p2 p3 p4 p5 p6 pl hB hBz
                obtain ⟨j, z, hj, rfl, rfl, hbk, hB⟩ := hrel
                have HBK := Lib.hid hbk
                have hBz := hB.size
                clear hbk
                obtain ⟨p0, p1, p2, p3, p4, p5, p6, pl⟩ := HBK.out.box7
                by_cases hlt1 : j < n4
                · obtain ⟨y, hy⟩ : ∃ y, x.lists[j]? = .some y := ⟨_, List.getElem?_eq_getElem (by rw [N4.out]; exact hlt1)⟩
                  obtain ⟨b, o, c, hi, hbB, hce, ⟨yv, rfl, hP⟩, _⟩ := HLS.out.at 35 22 Tryz.underlying35 (by kernel_rfl) hy
                  obtain ⟨a6, c6, rfl, _⟩ := hP.shape
                  have e0 := (hB.cell hbB).trans (hce 0 _ rfl)
                  have hbB' := Nat.lt_of_lt_of_le hbB hB.size
                  rw [Nat.add_zero] at e0
                  have CP : Hid (∀ (W : World) (q : Int), Below w.heap.size w W → Calls Tryz.prog 37 #[.slice a6 y.length c6, .int .i64 m, .int .i64 q] W (SomeInt W)) := Lib.hid fun W q hW => HSZ.out W _ _ m q (hP.later hW)
                  clear hy hce hP
                  go_wp2_with fail
                  refine (CP.out _ _ bg).mono ?_
                  rintro e w1 ⟨z1, rfl, hb1⟩
                  have HB1 := Lib.hid hb1
                  have hB1 : Below w.heap.size w w1 := since hb1 bg
                  clear hb1
                  go_wp2_with fail
                  go_roundw
                  case rel => exact ⟨j + 1, _, by omega, by go_num, rfl, HBK.out.below HB1.out HBK.out.lt, hB1⟩
                  case measure => simp [intOf]; omega
                · go_wp2_with fail
                  go_loopw [7, 121]
                   (fun t i W => ∃ (j : Nat) (z : Int), j ≤ n5 ∧ i = .int .i64 j ∧ t = .int .i64 z ∧ Blk W g 38 #[.int .i64 x.kind, .string x.name, .slice a1 n1 c1, .slice a2 n2 c2, .slice a3 n3 c3, .slice a4 n4 c4, .slice a5 n5 c5] ∧ Below w.heap.size w W) (fun _ i _ => n5 - (intOf i).toNat)
                  case atStart => exact ⟨0, _, Nat.zero_le _, rfl, rfl, HBK.out, hB⟩
                  case round =>
                   clear p0 p1 p2 p3 p4 p5 p6 pl hB hBz
                   obtain ⟨j, z, hj, rfl, rfl, hbk, hB⟩ := hrel
                   have HBK := Lib.hid hbk
                   have hBz := hB.size
                   clear hbk
                   obtain ⟨p0, p1, p2, p3, p4, p5, p6, pl⟩ := HBK.out.box7
                   obtain ⟨wo, rfl⟩ : ∃ wo : World, wo = wr := ⟨_, rfl⟩
                   by_cases hlt1 : j < n5
                   · obtain ⟨y, hy⟩ : ∃ y, x.arms[j]? = .some y := ⟨_, List.getElem?_eq_getElem (by rw [N5.out]; exact hlt1)⟩
                     obtain ⟨b, o, c, hi, hbB, hce, hC, _⟩ := HAR.out.at 36 90 Tryz.underlying36 (by kernel_rfl) hy
                     obtain ⟨a6, c6, a7, c7, rfl, ⟨hz6, hz7⟩, hyw, hP⟩ := hC.open
                     have HYW := Lib.hid hyw
                     have e0 := (hB.cell hbB).trans (hce 0 _ rfl)
                     have e1 := (hB.cell hbB).trans (hce 1 _ rfl)
                     have hbB' := Nat.lt_of_lt_of_le hbB hB.size
                     rw [Nat.add_zero] at e0
                     obtain ⟨n6, hn6⟩ : ∃ n, y.words.length = n := ⟨_, rfl⟩
                     have N6 := Lib.hid hn6
                     rw [hn6] at e0 HYW hz6
                     have CP : Hid (∀ (W : World) (q : Int), Below w.heap.size w W → Calls Tryz.prog 37 #[.slice a7 y.body.length c7, .int .i64 m, .int .i64 q] W (SomeInt W)) := Lib.hid fun W q hW => HSZ.out W _ _ m q (hP.later hW)
                     clear hy hce hP hC hyw hn6
                     go_wp2_with fail
                     refine (CP.out _ _ bg).mono ?_
                     rintro e w1 ⟨z1, rfl, hb1⟩
                     have q0 : w1.cell? ⟨wo.heap.size, 0, none⟩ = some (.slice a6 n6 c6) := (hb1.cell (by simp)).trans (by simp)
                     have HBK1 := Lib.hid ((HBK.out.alloc (.cells #[.slice a6 n6 c6, .slice a7 y.body.length c7] 90)).below hb1 (by simp; omega))
                     have hB1 : Below w.heap.size w w1 := since hb1 bg
                     have hz1 := hb1.size
                     simp at hz1
                     clear hb1
                     go_wp2_with fail
                     clear hB hBz pl p0 p1 p2 p3 p4 p5 p6 hi e0 e1
                     obtain ⟨jo, hjo⟩ : ∃ jo, jo = j := ⟨_, rfl⟩
                     go_loopw [7, 137]
                      (fun t i W => ∃ (j : Nat) (z : Int), j ≤ n6 ∧ i = .int .i64 j ∧ t = .int .i64 z ∧ Blk W g 38 #[.int .i64 x.kind, .string x.name, .slice a1 n1 c1, .slice a2 n2 c2, .slice a3 n3 c3, .slice a4 n4 c4, .slice a5 n5 c5] ∧ Below w.heap.size w W) (fun _ i _ => n6 - (intOf i).toNat)
                     case atStart => exact ⟨0, _, Nat.zero_le _, rfl, rfl, HBK1.out, hB1⟩
                     case round =>
                      obtain ⟨j2, z, hj2, rfl, rfl, hbk, hB⟩ := hrel
                      have HBK2 := Lib.hid hbk
                      have hBz := hB.size
                      clear hbk
                      obtain ⟨p0, p1, p2, p3, p4, p5, p6, pl⟩ := HBK2.out.box7
                      by_cases hlt2 : j2 < n6
                      · obtain ⟨y2, hy⟩ : ∃ y2, y.words[j2]? = .some y2 := ⟨_, List.getElem?_eq_getElem (by rw [N6.out]; exact hlt2)⟩
                        obtain ⟨b, o, c, hi, hbB, hce, ⟨yv, rfl, hP⟩, _⟩ := HYW.out.at 34 29 Tryz.underlying34 (by kernel_rfl) hy
                        obtain ⟨a8, c8, rfl, _⟩ := hP.shape
                        have e0 := (hB.cell hbB).trans (hce 0 _ rfl)
                        have hbB' := Nat.lt_of_lt_of_le hbB hB.size
                        rw [Nat.add_zero] at e0
                        have CP2 : Hid (∀ (W : World) (q : Int), Below w.heap.size w W → Calls Tryz.prog 51 #[.slice a8 y2.length c8, .int .i64 m, .int .i64 q] W (SomeInt W)) := Lib.hid fun W q hW => HPZ.out W _ _ m q (hP.later hW)
                        clear hy hce hP
                        go_wp2_with fail
                        refine (CP2.out _ _ bg).mono ?_
                        rintro e w2 ⟨z2, rfl, hb2⟩
                        have HB2 := Lib.hid hb2
                        have hB2 : Below w.heap.size w w2 := since hb2 bg
                        clear hb2
                        go_wp2_with fail
                        go_roundw
                        case rel => exact ⟨j2 + 1, _, by omega, by go_num, rfl, HBK2.out.below HB2.out HBK2.out.lt, hB2⟩
                        case measure => simp [intOf]; omega
                      · go_wp2_with fail
                        go_roundw
                        case rel => exact ⟨j + 1, _, by omega, by go_num, rfl, HBK2.out, hB⟩
                        case measure => simp [intOf]; omega
                   · go_wp2_with fail
                     go_roundw
                     case rel => exact ⟨k + 1, _, by omega, by go_num, rfl, hB⟩
                     case measure => simp [intOf]; omega
  · go_wp2
    go_ret
    exact ⟨_, rfl, hB⟩

/-- parts and Size, at every depth. -/
theorem sizes : ∀ d, PartsZ d ∧ SizeZ d
 | 0 => by
   have hP : PartsZ 0 := fun W l v m q h => by
    rw [PtsIn] at h
    obtain rfl := h.zero
    obtain ⟨a, cap, rfl, _⟩ := h.len
    clear h
    have hn : ([] : List Pt).length = 0 := rfl
    rw [hn]
    go_enter Tryz.func51, Tryz.ntmps51
    go_wp2_with fail
    go_rounds 1
    go_ret
    exact ⟨_, rfl, Below.refl _ _⟩
   have hS : SizeZ 0 := fun W l v m q h => by
    rw [NdsIn] at h
    obtain rfl := h.zero
    obtain ⟨a, cap, rfl, _⟩ := h.len
    clear h
    have hn : ([] : List Nd).length = 0 := rfl
    rw [hn]
    go_enter Tryz.func37, Tryz.ntmps37
    go_wp2_with fail
    go_rounds 1
    go_ret
    exact ⟨_, rfl, Below.refl _ _⟩
   exact ⟨hP, hS⟩
 | d + 1 => by
   obtain ⟨h1, h2⟩ := sizes d
   exact ⟨fun W l v m q h => parts_step d h1 h2 l v m q W (by rw [PtsIn.succ] at h; exact h), fun W l v m q h => size_step d h1 h2 l v m q W (by rw [NdsIn.succ] at h; exact h)⟩
end Go.Proofs.YtnackmnoldkihaaGreatDoor
namespace Go.Proofs.YtnackmnoldkihaaGreatDoor
open Go.RowKit

theorem small_any (l : List Nd) (v : Value) (w : World) (d : Nat) (hl : NdsIn w w.heap.size d l v) :
 Calls Tryz.prog 8 #[v] w fun e w' => (∃ b, e = .returned (.bool b)) ∧ Below w.heap.size w w' := by
 have CS := Lib.hid ((sizes d).2 w l v 3000 100 hl)
 clear hl
 go_enter Tryz.func8, Tryz.ntmps8
 go_wp2_with fail
 refine CS.out.mono ?_
 rintro e w1 ⟨z, rfl, hb1⟩
 have HB1 := Lib.hid hb1
 clear hb1
 go_wp2_with fail
 go_ret
 exact ⟨⟨_, rfl⟩, HB1.out⟩

end Go.Proofs.YtnackmnoldkihaaGreatDoor
