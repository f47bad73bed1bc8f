/-
  The walks of both Contents.
-/
import Derived.Test.YtmlgmedapbeleaaGreatDoorW3
import Derived.Test.YtmlgmedapbeleaaGreatDoorW1
import Derived.Lib.ConvBytes
import Derived.Deep.LoopGhost
set_option linter.unusedVariables false
set_option linter.unusedSimpArgs false
/-
  The walk of Make.
-/
namespace Go.Proofs.YtmlgmedapbeleaaGreatDoor
open Go.RowKit

section
variable {w w' : World} {B db mb : Nat} {ns : List Nd} {ps : List Pl} {used : Int} {n : Nd} {p : Pl}
def made (k m : Int) (d : ByteArray) : Nd := ⟨k, m, 0, 1, d, [], 0⟩
theorem made_end {w2 w4 : World} (h : Dk w2 B db mb ns ps used) (k m : Int) (d : ByteArray) (cap : Nat) (L : Nat) (hL : L = ns.length) (hB : B ≤ w2.heap.size)
    (hg4 : (((w2.setCell ⟨db, 1, none⟩ (.int .i64 ((L : Int) + 1 + 1))).alloc (.cells (bytesRow d cap) 5 ((bytesRow d cap).size, (bytesRow d cap).size + 1))).alloc
      (.cells #[.int .i64 k, .int .i64 m, .int .i64 0, .int .i64 1, .slice (some ⟨w2.heap.size, 0, none⟩) d.size cap, .slice none 0 0, .int .i64 0] 51)).drew.grownBy w4 (some mb))
    (hm4 : MapI w4 mb (ns.length + 1) (fun t => if t = (L : Int) + 1 then some (.pointer (some ⟨w2.heap.size + 1, 0, none⟩)) else nodeM ps t)) :
    (∃ p, Dk w4 B db mb (ns ++ [made k m d]) (ps ++ [p]) used) ∧ Stay mb w2 w4 ∧ Below B w2 w4 := by
  obtain ⟨W1, hW1⟩ : ∃ W1, W1 = w2.setCell ⟨db, 1, none⟩ (.int .i64 ((L : Int) + 1 + 1)) := ⟨_, rfl⟩
  have hs1 : W1.heap.size = w2.heap.size := by rw [hW1]; simp
  have hb1 : Blk W1 db 44 #[.map (some mb), .int .i64 ((L : Int) + 1 + 1), .int .i64 used, .int .i64 1048576] := by
    rw [hW1]; have := h.box.put 1 (.int .i64 ((L : Int) + 1 + 1)); simpa using this
  have hst1 : Stay mb w2 W1 := by rw [hW1]; exact Stay.set h.box (.inl rfl) _
  have hbl1 : Below B w2 W1 := by rw [hW1]; exact (Below.refl _ _).setCell h.lowd _
  have hc1 : ∀ b, b ≠ db → W1.heap[b]? = w2.heap[b]? := fun b hb => by rw [hW1]; exact Below.heap_setCell _ _ _ _ hb
  rw [← hW1] at hg4
  clear hW1
  obtain ⟨X, hX⟩ : ∃ X, X = Obj.cells (bytesRow d cap) 5 ((bytesRow d cap).size, (bytesRow d cap).size + 1) := ⟨_, rfl⟩
  obtain ⟨W2, hW2⟩ : ∃ W2, W2 = (W1.alloc X).alloc (.cells #[.int .i64 k, .int .i64 m, .int .i64 0, .int .i64 1, .slice (some ⟨w2.heap.size, 0, none⟩) d.size cap, .slice none 0 0, .int .i64 0] 51) := ⟨_, rfl⟩
  rw [← hX, ← hW2] at hg4
  have hs2 : W2.heap.size = w2.heap.size + 2 := by rw [hW2]; simp [hs1]
  have h2' : Below W1.heap.size W1 W2 := by rw [hW2]; exact ((Below.refl _ _).alloc (Nat.le_refl _) _).alloc (by simp) _
  have hx2 : W2.heap[w2.heap.size]? = some X := by
    rw [hW2, Below.heap_alloc _ _ _ (by simp [hs1]), ← hs1]; exact heap_alloc_new W1 X
  have hn2 : Blk W2 (w2.heap.size + 1) 51 (ndC (made k m d) ⟨w2.heap.size + 1, .slice (some ⟨w2.heap.size, 0, none⟩) d.size cap, .slice none 0 0⟩) := by
    rw [hW2]
    have := Blk.new (W1.alloc X) 51 (ndC (made k m d) ⟨w2.heap.size + 1, .slice (some ⟨w2.heap.size, 0, none⟩) d.size cap, .slice none 0 0⟩)
    simpa [hs1, ndC, made] using this
  obtain ⟨W3, hW3⟩ : ∃ W3, W3 = W2.drew := ⟨_, rfl⟩
  rw [← hW3] at hg4
  have hg := hg4
  have hs3 : W3.heap.size = w2.heap.size + 2 := by rw [hW3]; exact hs2
  have h3 : Below W1.heap.size W1 W3 := by rw [hW3]; exact Below.drew h2'
  have hx3 : W3.heap[w2.heap.size]? = some X := by rw [hW3]; exact hx2
  have hn3 : Blk W3 (w2.heap.size + 1) 51 (ndC (made k m d) ⟨w2.heap.size + 1, .slice (some ⟨w2.heap.size, 0, none⟩) d.size cap, .slice none 0 0⟩) := by rw [hW3]; exact hn2
  clear hW3 hg4
  have hmb : mb < w2.heap.size := h.map.lt
  have hk4 : ∀ b, b < w2.heap.size → b ≠ db → b ≠ mb → w4.heap[b]? = w2.heap[b]? := fun b hb h1 h2 => by
    rw [hg.block b (by omega) (fun e => h2 (by cases e; rfl)), h3.block b (by omega), hc1 b h1]
  have hdb : db ≠ mb := fun e => mapI_ne h.map h.box e.symm
  refine ⟨⟨⟨w2.heap.size + 1, .slice (some ⟨w2.heap.size, 0, none⟩) d.size cap, .slice none 0 0⟩, h.push ?_ ?_ hk4 ⟨hn3.grown hg (by simp; omega), by simp; omega, ?_, World.ownsRow_nil _ _ _ _⟩ (by simp) rfl⟩, ?_, ?_⟩
  · have e : (((ns ++ [made k m d]).length : Nat) : Int) + 1 = (L : Int) + 1 + 1 := by rw [List.length_append, hL]; simp
    rw [e]
    exact (hb1.below h3 hb1.lt).grown hg (by simpa using fun e => hdb e.symm)
  · rw [← nodeM_push]
    rw [h.len]
    subst hL
    exact hm4
  · exact .inr ⟨w2.heap.size, cap, rfl, by rw [hg.block _ (by omega) (fun e => by cases e; omega), hx3, hX]; rfl⟩
  · refine hst1.trans ⟨fun b cs t fr hb h1 h2 h3' => ?_, fun b es c hb h1 => ?_⟩
    · have hlt := (Array.getElem?_eq_some_iff.1 hb).1
      have hbm : b ≠ mb := fun e => by
        obtain ⟨D, ⟨es, clock, h0, _⟩, _⟩ := h.map
        rw [e, hc1 mb (Ne.symm hdb), h0] at hb
        cases hb
      rw [hg.block b (by omega) (fun e => hbm (by cases e; rfl)), h3.block b hlt]
    · have hlt := (Array.getElem?_eq_some_iff.1 hb).1
      rw [hg.block b (by omega) (fun e => h1 (by cases e; rfl)), h3.block b hlt]
  · exact hbl1.trans ((h3.mono (by omega)).grown hg (by omega) fun p hp => by cases hp; exact h.lowm)

set_option maxHeartbeats 2000000 in
set_option maxRecDepth 100000 in
theorem make_any (h : Dk w B db mb ns ps used) (k m : Int) (d : ByteArray) (hk : k = 1 ∨ k = 2 ∨ k = 3) (hk2 : k = 2 → d = ⟨#[]⟩) (hm : 0 ≤ m ∧ m ≤ 4095) (hd : d.size ≤ 20000) (h0 : 0 ≤ used) (hu : used + d.size ≤ 1048576) (hl : ns.length ≤ 100) (hB : B ≤ w.heap.size) :
    Calls Tryz.prog 14 #[.pointer (some ⟨db, 0, none⟩), .int .i64 k, .int .i64 m, .string d] w fun e w' => e = .returned (.tuple #[.int .i64 ((ns.length : Int) + 1), .int .i64 0]) ∧
      (∃ p, Dk w' B db mb (ns ++ [made k m d]) (ps ++ [p]) (used + d.size)) ∧ Stay mb w w' ∧ Below B w w' := by
  have CR : Hid (∀ W, Calls Tryz.prog 25 #[.int .i64 m] W fun e W' => e = .returned (.bool true) ∧ W = W') := Lib.hid fun W => by
    have := mright_any m W
    rw [decide_eq_true hm.1, decide_eq_true hm.2] at this
    exact this
  have CT : Hid (∀ W, Dk W B db mb ns ps used → Calls Tryz.prog 26 #[.pointer (some ⟨db, 0, none⟩), .int .i64 (d.size : Int)] W fun e w' => e = .returned (.bool true) ∧ Dk w' B db mb ns ps (used + d.size) ∧ Stay mb W w' ∧ Below B W w' ∧ w'.heap.size = W.heap.size) := Lib.hid fun W hW => take_any hW d.size h0 hu
  obtain ⟨L, hL⟩ : ∃ L, L = ns.length := ⟨_, rfl⟩
  have HL := Lib.hid hL
  have HH := Lib.hid h
  have hd1 : decide ((4194304 : Int) < (d.size : Int)) = false := decide_eq_false (by omega)
  obtain ⟨c, hc1, hc2⟩ := h.map.len (T := 42) Tryz.underlying42
  have hc3 : decide ((65536 : Int) ≤ (c : Int)) = false := decide_eq_false (by omega)
  have HD := Lib.hid hd
  have HLL : Hid (L ≤ 100) := Lib.hid (by omega)
  have HB := Lib.hid hB
  have b0 : w.cell? ⟨db, 0, none⟩ = some (.map (some mb)) := h.box.cell 0
  clear h hu hl hm h0 hd hB hc1 hL
  have wf : (Lit.int .i64 ((L : Int) + 1)).wf = true := by
    have := HL.out
    have := HLL.out
    simp [Lit.wf, IntKind.min, IntKind.max, IntKind.bits, IntKind.signed]; omega
  have hwr : IntKind.i64.wrap ((L : Int) + 1 + 1) = (L : Int) + 1 + 1 := IntWalk.i64_in _ ⟨by omega, by have := HLL.out; omega⟩
  have hcv := fun W => run_bytes_of_string (P := Tryz.prog) W 9 46 5 d Tryz.underlying9 Tryz.underlying46 Tryz.underlying5
  have hns : (ns.length : Int) + 1 = (L : Int) + 1 := by rw [HL.out]
  rw [hns]
  rcases hk with rfl | rfl | rfl
  · clear hk2
    go_enter Tryz.func14, Tryz.ntmps14
    go_wp2_with fail
    refine (CR.out _).mono ?_
    rintro e w1 ⟨rfl, rfl⟩
    go_wp2_with fail
    refine (CT.out _ HH.out).mono ?_
    rintro e w2 ⟨rfl, hd2, hs2, hb2, hz2⟩
    have b0' : w2.cell? ⟨db, 0, none⟩ = some (.map (some mb)) := hd2.box.cell 0
    have b1' : w2.cell? ⟨db, 1, none⟩ = some (.int .i64 ((L : Int) + 1)) := by have := hd2.box.cell 1; rw [HL.out]; exact this
    have z1' : w2.frozen? ⟨db, 1, none⟩ = false := hd2.box.free 1
    have hM : MapI (w2.setCell ⟨db, 1, none⟩ (.int .i64 ((L : Int) + 1 + 1))) mb ns.length (nodeM ps) := hd2.map.set (mapI_ne hd2.map hd2.box) _
    have H2 := Lib.hid hd2
    have HM := Lib.hid hM
    have HS2 := Lib.hid hs2
    have HB2 := Lib.hid hb2
    clear hd2 hM hs2 hb2 hz2 b0
    go_wp2_with (at_mapUpdate; refine wpList_putI rfl _ _ _ _ rfl _ Tryz.underlying42 rfl (((HM.out.block rfl).alloc _).alloc _) (by unfold maxLen; have := HLL.out; have := HL.out; omega) ((L : Int) + 1) (.pointer (some ⟨w2.heap.size + 1, 0, none⟩)) rfl (by simp [go_sem]) wf ?_; intro w4 hm4 hg4)
    go_ret2
    obtain ⟨q1, q2, q3⟩ := made_end H2.out 1 m d _ L HL.out (Nat.le_trans HB.out HB2.out.size) hg4 hm4
    exact ⟨rfl, q1, HS2.out.trans q2, HB2.out.trans q3⟩
  · obtain rfl := hk2 rfl
    go_enter Tryz.func14, Tryz.ntmps14
    go_wp2_with fail
    refine (CR.out _).mono ?_
    rintro e w1 ⟨rfl, rfl⟩
    go_wp2_with fail
    refine (CT.out _ HH.out).mono ?_
    rintro e w2 ⟨rfl, hd2, hs2, hb2, hz2⟩
    have b0' : w2.cell? ⟨db, 0, none⟩ = some (.map (some mb)) := hd2.box.cell 0
    have b1' : w2.cell? ⟨db, 1, none⟩ = some (.int .i64 ((L : Int) + 1)) := by have := hd2.box.cell 1; rw [HL.out]; exact this
    have z1' : w2.frozen? ⟨db, 1, none⟩ = false := hd2.box.free 1
    have hM : MapI (w2.setCell ⟨db, 1, none⟩ (.int .i64 ((L : Int) + 1 + 1))) mb ns.length (nodeM ps) := hd2.map.set (mapI_ne hd2.map hd2.box) _
    have H2 := Lib.hid hd2
    have HM := Lib.hid hM
    have HS2 := Lib.hid hs2
    have HB2 := Lib.hid hb2
    clear hd2 hM hs2 hb2 hz2 b0
    go_wp2_with (at_mapUpdate; refine wpList_putI rfl _ _ _ _ rfl _ Tryz.underlying42 rfl (((HM.out.block rfl).alloc _).alloc _) (by unfold maxLen; have := HLL.out; have := HL.out; omega) ((L : Int) + 1) (.pointer (some ⟨w2.heap.size + 1, 0, none⟩)) rfl (by simp [go_sem]) wf ?_; intro w4 hm4 hg4)
    go_ret2
    obtain ⟨q1, q2, q3⟩ := made_end H2.out 2 m _ _ L HL.out (Nat.le_trans HB.out HB2.out.size) hg4 hm4
    exact ⟨rfl, q1, HS2.out.trans q2, HB2.out.trans q3⟩
  · clear hk2
    go_enter Tryz.func14, Tryz.ntmps14
    go_wp2_with fail
    refine (CR.out _).mono ?_
    rintro e w1 ⟨rfl, rfl⟩
    go_wp2_with fail
    refine (CT.out _ HH.out).mono ?_
    rintro e w2 ⟨rfl, hd2, hs2, hb2, hz2⟩
    have b0' : w2.cell? ⟨db, 0, none⟩ = some (.map (some mb)) := hd2.box.cell 0
    have b1' : w2.cell? ⟨db, 1, none⟩ = some (.int .i64 ((L : Int) + 1)) := by have := hd2.box.cell 1; rw [HL.out]; exact this
    have z1' : w2.frozen? ⟨db, 1, none⟩ = false := hd2.box.free 1
    have hM : MapI (w2.setCell ⟨db, 1, none⟩ (.int .i64 ((L : Int) + 1 + 1))) mb ns.length (nodeM ps) := hd2.map.set (mapI_ne hd2.map hd2.box) _
    have H2 := Lib.hid hd2
    have HM := Lib.hid hM
    have HS2 := Lib.hid hs2
    have HB2 := Lib.hid hb2
    clear hd2 hM hs2 hb2 hz2 b0
    go_wp2_with (at_mapUpdate; refine wpList_putI rfl _ _ _ _ rfl _ Tryz.underlying42 rfl (((HM.out.block rfl).alloc _).alloc _) (by unfold maxLen; have := HLL.out; have := HL.out; omega) ((L : Int) + 1) (.pointer (some ⟨w2.heap.size + 1, 0, none⟩)) rfl (by simp [go_sem]) wf ?_; intro w4 hm4 hg4)
    go_ret2
    obtain ⟨q1, q2, q3⟩ := made_end H2.out 3 m d _ L HL.out (Nat.le_trans HB.out HB2.out.size) hg4 hm4
    exact ⟨rfl, q1, HS2.out.trans q2, HB2.out.trans q3⟩
end
end Go.Proofs.YtmlgmedapbeleaaGreatDoor
/-
  The walks of free and Release, for a node that an entry names.
-/
namespace Go.Proofs.YtmlgmedapbeleaaGreatDoor
open Go.RowKit

section
variable {w w' : World} {B db mb : Nat} {ns : List Nd} {ps : List Pl} {used : Int} {n : Nd} {p : Pl}
theorem Dk.lookup (h : Dk w B db mb ns ps used) {i : Nat} (hp : ps[i]? = some p) (hl : ns.length ≤ 100) :
    (Instr.lookup 42 (.map (some mb)) (.int .i64 ((i : Int) + 1)) false).run Tryz.prog w = .ok (.pointer (some ⟨p.b, 0, none⟩)) w := by
  have hil := (List.getElem?_eq_some_iff.1 hp).1
  rw [h.len] at hil
  have := h.map.look (T := 42) (e := 45) Tryz.underlying42 (z := .pointer none) (by kernel_rfl) ((i : Int) + 1) (by simp [Lit.wf, IntKind.min, IntKind.max, IntKind.bits, IntKind.signed]; omega)
  rw [nodeM_at hp] at this
  exact this

theorem free_any (h : Dk w B db mb ns ps used) {i : Nat} (hn : ns[i]? = some n) (hp : ps[i]? = some p) (hk : 0 < n.n) (hl : ns.length ≤ 100) :
    Calls Tryz.prog 30 #[.pointer (some ⟨db, 0, none⟩), .int .i64 ((i : Int) + 1)] w fun e w' => e = .returned (.tuple #[]) ∧ Below w.heap.size w w' := by
  have b0 : w.cell? ⟨db, 0, none⟩ = some (.map (some mb)) := h.box.cell 0
  have hr := h.lookup hp hl
  have c2 : w.cell? ⟨p.b, 2, none⟩ = some (.int .i64 n.n) := (h.node i n p hn hp).box.cell 2
  have hd : decide (0 < n.n) = true := decide_eq_true hk
  clear h hl hk
  go_enter Tryz.func30, Tryz.ntmps30
  go_wp2_with fail
  refine bodyPost_ret (results_none rfl _ _ _) rfl ?_
  exact ⟨rfl, Below.refl _ _⟩


theorem release_any (h : Dk w B db mb ns ps used) {i : Nat} (hn : ns[i]? = some n) (hp : ps[i]? = some p) (hk : 0 < n.n) (hh : n.h = 1) (hl : ns.length ≤ 100) :
    Calls Tryz.prog 16 #[.pointer (some ⟨db, 0, none⟩), .int .i64 ((i : Int) + 1)] w fun e w' => e = .returned (.int .i64 0) ∧ Dk w' B db mb (ns.set i { n with h := 0 }) ps used ∧ Stay mb w w' ∧ Below B w w' := by
  have b0 : w.cell? ⟨db, 0, none⟩ = some (.map (some mb)) := h.box.cell 0
  have hr := h.lookup hp hl
  have k0 := h.node i n p hn hp
  have c3 : w.cell? ⟨p.b, 3, none⟩ = some (.int .i64 1) := by rw [← hh]; exact k0.box.cell 3
  have z3 : w.frozen? ⟨p.b, 3, none⟩ = false := k0.box.free 3
  have h2 : Dk (w.setCell ⟨p.b, 3, none⟩ (.int .i64 0)) B db mb (ns.set i { n with h := 0 }) ps used := h.setn hn hp 3 _ _ rfl rfl rfl
  have hil := (List.getElem?_eq_some_iff.1 hn).1
  have CF := Lib.hid (free_any h2 (i := i) (n := { n with h := 0 }) (p := p) (by rw [List.getElem?_set_self hil]) hp hk (by rw [List.length_set]; exact hl))
  have HS : Hid (Stay mb w (w.setCell ⟨p.b, 3, none⟩ (.int .i64 0))) := Lib.hid (Stay.set k0.box (.inr (.inl rfl)) _)
  have HB : Hid (Below B w (w.setCell ⟨p.b, 3, none⟩ (.int .i64 0))) := Lib.hid ((Below.refl _ _).setCell k0.low _)
  have HBs : Hid (B ≤ (w.setCell ⟨p.b, 3, none⟩ (.int .i64 0)).heap.size) := Lib.hid (by have := k0.box.lt; have := k0.low; simp; omega)
  have H2 := Lib.hid h2
  clear h hl hk k0 h2 hn hp hh hil
  go_enter Tryz.func16, Tryz.ntmps16
  go_wp2_with fail
  refine CF.out.mono ?_
  rintro e w1 ⟨rfl, hb⟩
  have HB1 := Lib.hid hb
  clear hb
  go_wp2_with fail
  go_ret
  exact ⟨rfl, H2.out.below HB1.out, HS.out.trans (Stay.below HB1.out), HB.out.trans (HB1.out.mono HBs.out)⟩
end
end Go.Proofs.YtmlgmedapbeleaaGreatDoor
/-
  A block of bytes of the call's own, made by []byte(s), written byte by byte, read back by string(b).
-/
namespace Go.Proofs.YtmlgmedapbeleaaGreatDoor
open Go.RowKit

theorem bits_xor_u8 (u v : UInt8) {x y : Int} (hx : x = (u.toNat : Nat)) (hy : y = (v.toNat : Nat)) : bits BinOp.xor .u8 x y = (((u ^^^ v).toNat : Nat) : Int) := by
  subst hx hy
  have hu := u.toNat_lt
  have hv := v.toNat_lt
  have hxor : u.toNat ^^^ v.toNat < 2 ^ 8 := Nat.xor_lt_two_pow hu hv
  have e1 : ((u.toNat : Int) % ((2 ^ 8 : Nat) : Int)).toNat = u.toNat := by simp; omega
  have e2 : ((v.toNat : Int) % ((2 ^ 8 : Nat) : Int)).toNat = v.toNat := by simp; omega
  have h : (BitVec.ofInt 8 (u.toNat : Int) ^^^ BitVec.ofInt 8 (v.toNat : Int)).toNat = u.toNat ^^^ v.toNat := by
    rw [BitVec.toNat_xor, BitVec.toNat_ofInt, BitVec.toNat_ofInt, e1, e2]
  show IntKind.u8.wrap (((BitVec.ofInt 8 (u.toNat : Int) ^^^ BitVec.ofInt 8 (v.toNat : Int)).toNat : Nat) : Int) = _
  rw [h, IntWalk.u8_in _ ⟨by omega, by omega⟩, UInt8.toNat_xor]

/-- The bit that a shift of 128 leaves. -/
def bitAt (k : Nat) : UInt8 := UInt8.ofNat (128 / 2 ^ (k % 8))
theorem bitAt_int (k : Nat) : (128 / 2 ^ (k % 8) : Int) = ((bitAt k).toNat : Nat) := by
  have : (128 / 2 ^ (k % 8) : Nat) < 256 := Nat.lt_of_le_of_lt (Nat.div_le_self _ _) (by omega)
  have e : (bitAt k).toNat = 128 / 2 ^ (k % 8) := by simp [bitAt]; omega
  rw [e]; simp

/-- Block b holds the bytes bl from its head on, and they may be written. -/
def BytesAt (w : World) (b : Nat) (bl : List UInt8) : Prop := ∀ j, j < bl.length → w.cell? ⟨b, j, none⟩ = some (.int .u8 ((bl.getD j 0).toNat : Nat)) ∧ w.frozen? ⟨b, j, none⟩ = false

theorem cellBytes_of {w : World} {b : Nat} : ∀ (bl : List UInt8) (off : Nat), (∀ j, j < bl.length → w.cell? ⟨b, off + j, none⟩ = some (.int .u8 ((bl.getD j 0).toNat : Nat))) → cellBytes w b off bl.length = some bl
  | [], _, _ => rfl
  | c :: bl, off, h => by
    have h0 := h 0 (by simp)
    have ih := cellBytes_of bl (off + 1) fun j hj => by
      have := h (j + 1) (by simpa using hj)
      rw [show off + 1 + j = off + (j + 1) by omega, this]; simp
    simp only [Nat.add_zero] at h0
    simp [cellBytes, h0, ih]

theorem BytesAt.bytes {w : World} {b : Nat} {bl : List UInt8} (h : BytesAt w b bl) {n : Nat} (hn : bl.length = n) : cellBytes w b 0 n = some bl := by
  subst hn
  exact cellBytes_of bl 0 fun j hj => by rw [Nat.zero_add]; exact (h j hj).1

theorem BytesAt.below {w w' : World} {b B : Nat} {bl : List UInt8} (h : BytesAt w b bl) (hb : Below B w w') (hB : b < B) : BytesAt w' b bl := fun j hj => by
  rw [hb.cell (p := ⟨b, j, none⟩) hB, hb.frozen (p := ⟨b, j, none⟩) hB]; exact h j hj

theorem BytesAt.set {w : World} {b : Nat} {bl : List UInt8} (h : BytesAt w b bl) {j : Nat} (hj : j < bl.length) {x : Int} {u : UInt8} (hu : x = (u.toNat : Nat)) : BytesAt (w.setCell ⟨b, j, none⟩ (.int .u8 x)) b (bl.set j u) := by
  intro i hi
  have hi' : i < bl.length := by simpa using hi
  refine ⟨?_, by rw [World.frozen?_setCell]; exact (h i hi').2⟩
  by_cases e : j = i
  · subst e
    rw [World.cell?_setCell_same _ _ _ (h j hj).1, hu]
    simp [hj]
  · rw [World.cell?_setCell_other _ _ _ _ (by intro h'; injection h' with _ h'; exact e h'), (h i hi').1]
    simp [List.getElem?_set_ne e]

theorem BytesAt.made (w : World) (e : TypeId) (s : ByteArray) : BytesAt (Lib.bytesWorld w e s) w.heap.size (L s) := by
  intro j hj
  refine ⟨?_, ?_⟩
  · rw [Lib.bytesWorld_cell w e s j hj]; rfl
  · have hc : s.size ≤ (Lib.bytesCells w e s).size := by simp [Lib.bytesCells]
    have hj' : j < s.size := hj
    simp [World.frozen?, Lib.bytesWorld_at_new]
    omega

@[go_sem] theorem Tryz.toBytes (w : World) (s : ByteArray) : (convert 9 46 (.string s)).run Tryz.prog w = .ok (.slice (some ⟨w.heap.size, 0, none⟩) s.size (grownCap w s.size 0 5)) (Lib.bytesWorld w 5 s) :=
  Lib.run_convert_string_bytes w _ _ _ s Tryz.underlying9 Tryz.underlying46 Tryz.underlying5

theorem below_bytesWorld (w : World) (e : TypeId) (s : ByteArray) : Below w.heap.size w (Lib.bytesWorld w e s) :=
  ⟨rfl, rfl, rfl, by rw [Lib.bytesWorld_size]; omega, fun k hk => Lib.bytesWorld_at_old w e s k hk⟩
end Go.Proofs.YtmlgmedapbeleaaGreatDoor
/-
  Where an entry stands: a name behind all that there are.
-/
namespace Go.Proofs.YtmlgmedapbeleaaGreatDoor
open Go.RowKit

theorem cmp_neg : ∀ {a b : List UInt8}, a < b → Lib.compareBytes a b = -1
  | [], [], h => absurd h (List.lt_irrefl _)
  | [], _ :: _, _ => rfl
  | _ :: _, [], h => by cases h
  | x :: a, y :: b, h => by
    rw [Lib.compareBytes]
    rcases List.cons_lt_cons_iff.1 h with h1 | ⟨h1, h2⟩
    · rw [if_pos h1]
    · subst h1
      rw [if_neg (UInt8.lt_irrefl x), if_neg (UInt8.lt_irrefl x)]
      exact cmp_neg h2

theorem ecmp_any (a t : ByteArray) (k : Int) (w : World) (h : L a < L t) :
    Calls Tryz.prog 72 #[.agg #[.string a, .int .i64 k], .string t] w fun e w' => e = .returned (.int .i64 (-1)) ∧ Below w.heap.size w w' := by
  have C1 : Hid (∀ W, Calls Tryz.prog 20 #[.string a, .string t] W fun e w' => e = .returned (.int .i64 (-1)) ∧ w' = W) := Lib.hid fun W => by
    have := Tryz.strings_Compare a t W
    rw [show Lib.compareBytes a.data.toList t.data.toList = -1 from cmp_neg h] at this
    exact this
  clear h
  go_enter Tryz.func72, Tryz.ntmps72
  go_wp2_with fail
  refine (C1.out _).mono ?_
  rintro e w1 ⟨rfl, rfl⟩
  go_wp2_with fail
  go_ret
  exact ⟨rfl, by go_grown⟩
end Go.Proofs.YtmlgmedapbeleaaGreatDoor
/-
  The walks of BinarySearchFunc and find, for a name behind all that there are.
-/
namespace Go.Proofs.YtmlgmedapbeleaaGreatDoor
open Go.RowKit

set_option maxHeartbeats 2000000 in
set_option maxRecDepth 100000 in
theorem bsearch_any (es : List (ByteArray × Int)) (v : Value) (t : ByteArray) (w : World) (hs : Sl w w.heap.size 2 v es.length (es.flatMap enC)) (hlt : ∀ x ∈ es, L x.1 < L t) (h30 : es.length ≤ 100) :
    Calls Tryz.prog 71 #[v, .string t, .func (.func 72) #[] #[]] w fun e w' => e = .returned (.tuple #[.int .i64 (es.length : Int), .bool false]) ∧ Below w.heap.size w w' := by
  obtain ⟨a, cap, b, off, rfl, hnc, hnm, hidx, hb, hcell⟩ := hs.open (P := Tryz.prog) 47 84 Tryz.underlying47 (by kernel_rfl)
  obtain ⟨n, hn⟩ : ∃ n, n = es.length := ⟨_, rfl⟩
  rw [← hn] at hidx hb h30 ⊢
  have HC : Hid (∀ (k : Nat) (x : ByteArray × Int), es[k]? = some x → w.cell? ⟨b, off + k * 2, none⟩ = some (.string x.1) ∧ w.cell? ⟨b, off + k * 2 + 1, none⟩ = some (.int .i64 x.2)) := Lib.hid fun k x hx => by
    have hk := (List.getElem?_eq_some_iff.1 hx).1
    refine ⟨?_, ?_⟩
    · have := hcell (k * 2) (by omega)
      rw [this]
      have := flat_get enC 2 enC_len es k x hx 0 (by omega)
      rw [Nat.add_zero] at this
      rw [this]; rfl
    · have := hcell (k * 2 + 1) (by omega)
      rw [Nat.add_assoc, this, flat_get enC 2 enC_len es k x hx 1 (by omega)]; rfl
  have HI := Lib.hid hidx
  have HB := Lib.hid hb
  have HN := Lib.hid hn
  have H30 := Lib.hid h30
  have CE : Hid (∀ (k : Nat) (x : ByteArray × Int) (W : World), es[k]? = some x → Calls Tryz.prog 72 #[.agg #[.string x.1, .int .i64 x.2], .string t] W fun e w' => e = .returned (.int .i64 (-1)) ∧ Below W.heap.size W w') := Lib.hid fun k x W hx => ecmp_any x.1 t x.2 W (hlt x (List.mem_of_getElem? hx))
  clear hs hlt hcell hidx hb hn hnc hnm
  go_enter Tryz.func71, Tryz.ntmps71
  go_wp2_with fail
  go_loopg [9, 10] n (fun kx s9 s10 wr => ∃ lo : Nat, s9 = .int .i64 lo ∧ s10 = .int .i64 n ∧ lo ≤ n ∧ n - lo ≤ kx ∧ Below w.heap.size w wr)
  case atStart => exact ⟨0, rfl, rfl, Nat.zero_le _, by omega, Below.refl _ _⟩
  case round =>
    obtain ⟨lo, rfl, rfl, hle, hg, hbw⟩ := hrel
    have HBW := Lib.hid hbw
    clear hbw
    by_cases hlt : lo < n
    · obtain ⟨q, hq⟩ : ∃ q, q = (lo + n) / 2 := ⟨_, rfl⟩
      have hqi : ((lo : Int) + (n : Int)) / 2 = (q : Int) := by omega
      have hmid : q < n := by omega
      have hql : lo ≤ q := by omega
      obtain ⟨x, hx⟩ : ∃ x, es[q]? = some x := ⟨_, List.getElem?_eq_getElem (by rw [← HN.out]; exact hmid)⟩
      obtain ⟨c1, c2⟩ := HC.out _ _ hx
      have hbb : b < w.heap.size := by rcases HB.out with h | h; omega; exact h
      replace c1 := (HBW.out.cell (p := ⟨b, off + q * 2, none⟩) hbb).trans c1
      replace c2 := (HBW.out.cell (p := ⟨b, off + q * 2 + 1, none⟩) hbb).trans c2
      have i1 := fun W => HI.out q W hmid
      have CX := Lib.hid fun W => CE.out _ _ W hx
      have HMID := Lib.hid hmid
      have HQL := Lib.hid hql
      clear hx hq hbb
      go_wp2_with fail
      refine (CX.out _).mono ?_
      rintro e w1 ⟨rfl, hb1⟩
      have HB1 : Hid (Below w.heap.size w w1) := Lib.hid (HBW.out.trans (hb1.mono HBW.out.size))
      clear hb1
      go_wp2_with fail
      go_roundg (n - (q + 1))
      case measure => have := HMID.out; have := HQL.out; omega
      case rel => exact ⟨q + 1, by go_num, rfl, HMID.out, Nat.le_refl _, HB1.out⟩
    · obtain rfl : lo = n := by omega
      go_wp2_with fail
      go_ret2
      exact ⟨rfl, HBW.out⟩
end Go.Proofs.YtmlgmedapbeleaaGreatDoor
/-
  The walks of shape, and of the document's word on an item by itself.
-/
namespace Go.Proofs.YtmlgmedapbeleaaGreatDoor
open Go.RowKit

theorem shape_any (x : It) (w : World) (hv : Held w) (hp : x.p.size ≤ 100000) (hd : x.d.size ≤ maxLen) :
    Calls Tryz.prog 39 #[itV x] w fun e w' => e = .returned (.int .i64 (aloneE x)) ∧ Below w.heap.size w w' := by
  obtain ⟨p, k, m, d, s⟩ := x
  have CP : Hid (∀ W, Held W → Calls Tryz.prog 64 #[.string p] W fun e w' => e = .returned (.bool (plainB p)) ∧ Below W.heap.size W w') := Lib.hid fun W hW => plain_any p W hp hW
  have CB : Hid (1 ≤ k ∧ k ≤ 3 → ∀ W, Calls Tryz.prog 65 #[itV ⟨p, k, m, d, s⟩] W fun e w' => e = .returned (.int .i64 (bodyE ⟨p, k, m, d, s⟩)) ∧ Below W.heap.size W w') := Lib.hid fun hk W => body_any _ W hk hd
  have CM := Lib.hid (mright_any m)
  obtain ⟨r, hr⟩ : ∃ r, r = aloneE ⟨p, k, m, d, s⟩ := ⟨_, rfl⟩
  rw [← hr]
  rw [aloneE] at hr
  simp only [] at hr
  have hv1 : Held (w.alloc (.cells #[.string p, .int .i64 k, .int .i64 m, .string d, .string s] 34)) := hv.below hv.2 (Below.alloc (Below.refl _ _) (Nat.le_refl _) _)
  have HV := Lib.hid hv1
  clear hv hv1 hd
  unfold itV at CB ⊢
  cases hpl : plainB p with
  | false =>
    rw [hpl] at CP hr
    rw [if_pos rfl] at hr
    subst hr
    clear CB CM
    go_enter Tryz.func39, Tryz.ntmps39
    go_wp2_with fail
    refine (CP.out _ HV.out).mono ?_
    rintro e w1 ⟨rfl, hb1⟩
    have hs1 : w.heap.size < w1.heap.size := by have := hb1.size; simp at this; omega
    have c0 : w1.cell? ⟨w.heap.size, 0, none⟩ = some (.string _) := (hb1.cell (by simp)).trans (by simp; rfl)
    have c1 : w1.cell? ⟨w.heap.size, 1, none⟩ = some (.int .i64 _) := (hb1.cell (by simp)).trans (by simp; rfl)
    have c2 : w1.cell? ⟨w.heap.size, 2, none⟩ = some (.int .i64 _) := (hb1.cell (by simp)).trans (by simp; rfl)
    have c3 : w1.cell? ⟨w.heap.size, 3, none⟩ = some (.string _) := (hb1.cell (by simp)).trans (by simp; rfl)
    have c4 : w1.cell? ⟨w.heap.size, 4, none⟩ = some (.string _) := (hb1.cell (by simp)).trans (by simp; rfl)
    have HB1 : Hid (Below w.heap.size w w1) := Lib.hid ((Below.alloc (Below.refl _ _) (Nat.le_refl _) _).trans (hb1.mono (by simp)))
    clear hb1
    go_wp2
    go_ret
    exact ⟨rfl, HB1.out⟩
  | true =>
    rw [hpl] at CP hr
    rw [if_neg (by decide)] at hr
    by_cases k1 : k < 1
    · rw [if_pos (.inl k1)] at hr
      subst hr
      clear CB CM
      go_enter Tryz.func39, Tryz.ntmps39
      go_wp2_with fail
      refine (CP.out _ HV.out).mono ?_
      rintro e w1 ⟨rfl, hb1⟩
      have hs1 : w.heap.size < w1.heap.size := by have := hb1.size; simp at this; omega
      have c0 : w1.cell? ⟨w.heap.size, 0, none⟩ = some (.string _) := (hb1.cell (by simp)).trans (by simp; rfl)
      have c1 : w1.cell? ⟨w.heap.size, 1, none⟩ = some (.int .i64 _) := (hb1.cell (by simp)).trans (by simp; rfl)
      have c2 : w1.cell? ⟨w.heap.size, 2, none⟩ = some (.int .i64 _) := (hb1.cell (by simp)).trans (by simp; rfl)
      have c3 : w1.cell? ⟨w.heap.size, 3, none⟩ = some (.string _) := (hb1.cell (by simp)).trans (by simp; rfl)
      have c4 : w1.cell? ⟨w.heap.size, 4, none⟩ = some (.string _) := (hb1.cell (by simp)).trans (by simp; rfl)
      have HB1 : Hid (Below w.heap.size w w1) := Lib.hid ((Below.alloc (Below.refl _ _) (Nat.le_refl _) _).trans (hb1.mono (by simp)))
      clear hb1
      go_wp2
      go_ret
      exact ⟨rfl, HB1.out⟩
    · by_cases k2 : 3 < k
      · rw [if_pos (.inr k2)] at hr
        subst hr
        clear CB CM
        go_enter Tryz.func39, Tryz.ntmps39
        go_wp2_with fail
        refine (CP.out _ HV.out).mono ?_
        rintro e w1 ⟨rfl, hb1⟩
        have hs1 : w.heap.size < w1.heap.size := by have := hb1.size; simp at this; omega
        have c0 : w1.cell? ⟨w.heap.size, 0, none⟩ = some (.string _) := (hb1.cell (by simp)).trans (by simp; rfl)
        have c1 : w1.cell? ⟨w.heap.size, 1, none⟩ = some (.int .i64 _) := (hb1.cell (by simp)).trans (by simp; rfl)
        have c2 : w1.cell? ⟨w.heap.size, 2, none⟩ = some (.int .i64 _) := (hb1.cell (by simp)).trans (by simp; rfl)
        have c3 : w1.cell? ⟨w.heap.size, 3, none⟩ = some (.string _) := (hb1.cell (by simp)).trans (by simp; rfl)
        have c4 : w1.cell? ⟨w.heap.size, 4, none⟩ = some (.string _) := (hb1.cell (by simp)).trans (by simp; rfl)
        have HB1 : Hid (Below w.heap.size w w1) := Lib.hid ((Below.alloc (Below.refl _ _) (Nat.le_refl _) _).trans (hb1.mono (by simp)))
        clear hb1
        go_wp2
        go_ret
        exact ⟨rfl, HB1.out⟩
      · rw [if_neg (by omega)] at hr
        by_cases m1 : 0 ≤ m ∧ m ≤ 4095
        · rw [show (decide (0 ≤ m) && decide (m ≤ 4095)) = true by simp [m1]] at CM
          by_cases k3 : k = 3
          · subst k3
            by_cases m2 : m = 511
            · subst m2
              rw [if_neg (by omega)] at hr
              have HR := Lib.hid hr
              have CB2 := Lib.hid (CB.out (by omega))
              clear hr CB hpl
              go_enter Tryz.func39, Tryz.ntmps39
              go_wp2_with fail
              refine (CP.out _ HV.out).mono ?_
              rintro e w1 ⟨rfl, hb1⟩
              have hs1 : w.heap.size < w1.heap.size := by have := hb1.size; simp at this; omega
              have c0 : w1.cell? ⟨w.heap.size, 0, none⟩ = some (.string _) := (hb1.cell (by simp)).trans (by simp; rfl)
              have c1 : w1.cell? ⟨w.heap.size, 1, none⟩ = some (.int .i64 _) := (hb1.cell (by simp)).trans (by simp; rfl)
              have c2 : w1.cell? ⟨w.heap.size, 2, none⟩ = some (.int .i64 _) := (hb1.cell (by simp)).trans (by simp; rfl)
              have c3 : w1.cell? ⟨w.heap.size, 3, none⟩ = some (.string _) := (hb1.cell (by simp)).trans (by simp; rfl)
              have c4 : w1.cell? ⟨w.heap.size, 4, none⟩ = some (.string _) := (hb1.cell (by simp)).trans (by simp; rfl)
              have HB1 : Hid (Below w.heap.size w w1) := Lib.hid ((Below.alloc (Below.refl _ _) (Nat.le_refl _) _).trans (hb1.mono (by simp)))
              clear hb1
              go_wp2_with fail
              refine (CM.out _).mono ?_
              rintro e w2 ⟨rfl, rfl⟩
              go_wp2_with fail
              refine (CB2.out _).mono ?_
              rintro e w3 ⟨rfl, hb3⟩
              go_wp2
              go_ret
              exact ⟨ret_int HR.out.symm, HB1.out.trans (hb3.mono (by omega))⟩
            · rw [if_pos (by omega)] at hr
              have e2 : (m == 511) = false := by simpa using m2
              clear CB hpl m2
              subst hr
              go_enter Tryz.func39, Tryz.ntmps39
              go_wp2_with fail
              refine (CP.out _ HV.out).mono ?_
              rintro e w1 ⟨rfl, hb1⟩
              have hs1 : w.heap.size < w1.heap.size := by have := hb1.size; simp at this; omega
              have c0 : w1.cell? ⟨w.heap.size, 0, none⟩ = some (.string _) := (hb1.cell (by simp)).trans (by simp; rfl)
              have c1 : w1.cell? ⟨w.heap.size, 1, none⟩ = some (.int .i64 _) := (hb1.cell (by simp)).trans (by simp; rfl)
              have c2 : w1.cell? ⟨w.heap.size, 2, none⟩ = some (.int .i64 _) := (hb1.cell (by simp)).trans (by simp; rfl)
              have c3 : w1.cell? ⟨w.heap.size, 3, none⟩ = some (.string _) := (hb1.cell (by simp)).trans (by simp; rfl)
              have c4 : w1.cell? ⟨w.heap.size, 4, none⟩ = some (.string _) := (hb1.cell (by simp)).trans (by simp; rfl)
              have HB1 : Hid (Below w.heap.size w w1) := Lib.hid ((Below.alloc (Below.refl _ _) (Nat.le_refl _) _).trans (hb1.mono (by simp)))
              clear hb1
              go_wp2_with fail
              refine (CM.out _).mono ?_
              rintro e w2 ⟨rfl, rfl⟩
              go_wp2
              go_ret
              exact ⟨rfl, HB1.out⟩
          · rw [if_neg (by omega)] at hr
            have HR := Lib.hid hr
            have CB2 := Lib.hid (CB.out (by omega))
            have e2 : (k == 3) = false := by simpa using k3
            clear hr CB hpl k3
            go_enter Tryz.func39, Tryz.ntmps39
            go_wp2_with fail
            refine (CP.out _ HV.out).mono ?_
            rintro e w1 ⟨rfl, hb1⟩
            have hs1 : w.heap.size < w1.heap.size := by have := hb1.size; simp at this; omega
            have c0 : w1.cell? ⟨w.heap.size, 0, none⟩ = some (.string _) := (hb1.cell (by simp)).trans (by simp; rfl)
            have c1 : w1.cell? ⟨w.heap.size, 1, none⟩ = some (.int .i64 _) := (hb1.cell (by simp)).trans (by simp; rfl)
            have c2 : w1.cell? ⟨w.heap.size, 2, none⟩ = some (.int .i64 _) := (hb1.cell (by simp)).trans (by simp; rfl)
            have c3 : w1.cell? ⟨w.heap.size, 3, none⟩ = some (.string _) := (hb1.cell (by simp)).trans (by simp; rfl)
            have c4 : w1.cell? ⟨w.heap.size, 4, none⟩ = some (.string _) := (hb1.cell (by simp)).trans (by simp; rfl)
            have HB1 : Hid (Below w.heap.size w w1) := Lib.hid ((Below.alloc (Below.refl _ _) (Nat.le_refl _) _).trans (hb1.mono (by simp)))
            clear hb1
            go_wp2_with fail
            refine (CM.out _).mono ?_
            rintro e w2 ⟨rfl, rfl⟩
            go_wp2_with fail
            refine (CB2.out _).mono ?_
            rintro e w3 ⟨rfl, hb3⟩
            go_wp2
            go_ret
            exact ⟨ret_int HR.out.symm, HB1.out.trans (hb3.mono (by omega))⟩
        · rw [show (decide (0 ≤ m) && decide (m ≤ 4095)) = false by
            by_cases h : 0 ≤ m
            · simp [show ¬ m ≤ 4095 from fun h' => m1 ⟨h, h'⟩]
            · simp [h]] at CM
          rw [if_pos (by omega)] at hr
          subst hr
          clear CB hpl m1
          go_enter Tryz.func39, Tryz.ntmps39
          go_wp2_with fail
          refine (CP.out _ HV.out).mono ?_
          rintro e w1 ⟨rfl, hb1⟩
          have hs1 : w.heap.size < w1.heap.size := by have := hb1.size; simp at this; omega
          have c0 : w1.cell? ⟨w.heap.size, 0, none⟩ = some (.string _) := (hb1.cell (by simp)).trans (by simp; rfl)
          have c1 : w1.cell? ⟨w.heap.size, 1, none⟩ = some (.int .i64 _) := (hb1.cell (by simp)).trans (by simp; rfl)
          have c2 : w1.cell? ⟨w.heap.size, 2, none⟩ = some (.int .i64 _) := (hb1.cell (by simp)).trans (by simp; rfl)
          have c3 : w1.cell? ⟨w.heap.size, 3, none⟩ = some (.string _) := (hb1.cell (by simp)).trans (by simp; rfl)
          have c4 : w1.cell? ⟨w.heap.size, 4, none⟩ = some (.string _) := (hb1.cell (by simp)).trans (by simp; rfl)
          have HB1 : Hid (Below w.heap.size w w1) := Lib.hid ((Below.alloc (Below.refl _ _) (Nat.le_refl _) _).trans (hb1.mono (by simp)))
          clear hb1
          go_wp2_with fail
          refine (CM.out _).mono ?_
          rintro e w2 ⟨rfl, rfl⟩
          go_wp2
          go_ret
          exact ⟨rfl, HB1.out⟩
end Go.Proofs.YtmlgmedapbeleaaGreatDoor
/-
  The walk of the document's word on an item by itself.
-/
namespace Go.Proofs.YtmlgmedapbeleaaGreatDoor
open Go.RowKit

set_option maxHeartbeats 1000000 in
theorem alone_any (x : It) (w : World) (hp : x.p.size ≤ 100000) (hd : x.d.size ≤ maxLen) :
    Calls Tryz.prog 22 #[itV x] w fun e w' => e = .returned (.int .i64 (aloneE x)) ∧ Below w.heap.size w w' := by
  obtain ⟨p, k, m, d, s⟩ := x
  have CP : Hid (∀ W, Calls Tryz.prog 41 #[.string p] W fun e w' => e = .returned (.bool (plainB p)) ∧ Below W.heap.size W w') := Lib.hid fun W => refPlain_any p W hp
  have CR := Lib.hid (fun w => refRight_any d w hd)
  unfold maxLen at hd
  simp only [] at hp hd
  obtain ⟨r, hr⟩ : ∃ r, r = aloneE ⟨p, k, m, d, s⟩ := ⟨_, rfl⟩
  rw [← hr]
  rw [aloneE] at hr
  simp only [] at hr
  unfold itV
  cases hpl : plainB p with
  | false =>
    rw [hpl] at CP hr
    rw [if_pos rfl] at hr
    subst hr
    clear CR
    go_enter Tryz.func22, Tryz.ntmps22
    go_wp2_with fail
    refine (CP.out _).mono ?_
    rintro e w1 ⟨rfl, hb1⟩
    have hs1 : w.heap.size < w1.heap.size := by have := hb1.size; simp at this; omega
    have c0 : w1.cell? ⟨w.heap.size, 0, none⟩ = some (.string _) := (hb1.cell (by simp)).trans (by simp; rfl)
    have c1 : w1.cell? ⟨w.heap.size, 1, none⟩ = some (.int .i64 _) := (hb1.cell (by simp)).trans (by simp; rfl)
    have c2 : w1.cell? ⟨w.heap.size, 2, none⟩ = some (.int .i64 _) := (hb1.cell (by simp)).trans (by simp; rfl)
    have c3 : w1.cell? ⟨w.heap.size, 3, none⟩ = some (.string _) := (hb1.cell (by simp)).trans (by simp; rfl)
    have c4 : w1.cell? ⟨w.heap.size, 4, none⟩ = some (.string _) := (hb1.cell (by simp)).trans (by simp; rfl)
    have HB1 : Hid (Below w.heap.size w w1) := Lib.hid ((Below.alloc (Below.refl _ _) (Nat.le_refl _) _).trans (hb1.mono (by simp)))
    clear hb1
    go_wp2
    go_ret
    exact ⟨rfl, HB1.out⟩
  | true =>
    rw [hpl] at CP hr
    rw [if_neg (by decide)] at hr
    by_cases k1 : k < 1
    · rw [if_pos (.inl k1)] at hr
      subst hr
      clear CR
      go_enter Tryz.func22, Tryz.ntmps22
      go_wp2_with fail
      refine (CP.out _).mono ?_
      rintro e w1 ⟨rfl, hb1⟩
      have hs1 : w.heap.size < w1.heap.size := by have := hb1.size; simp at this; omega
      have c0 : w1.cell? ⟨w.heap.size, 0, none⟩ = some (.string _) := (hb1.cell (by simp)).trans (by simp; rfl)
      have c1 : w1.cell? ⟨w.heap.size, 1, none⟩ = some (.int .i64 _) := (hb1.cell (by simp)).trans (by simp; rfl)
      have c2 : w1.cell? ⟨w.heap.size, 2, none⟩ = some (.int .i64 _) := (hb1.cell (by simp)).trans (by simp; rfl)
      have c3 : w1.cell? ⟨w.heap.size, 3, none⟩ = some (.string _) := (hb1.cell (by simp)).trans (by simp; rfl)
      have c4 : w1.cell? ⟨w.heap.size, 4, none⟩ = some (.string _) := (hb1.cell (by simp)).trans (by simp; rfl)
      have HB1 : Hid (Below w.heap.size w w1) := Lib.hid ((Below.alloc (Below.refl _ _) (Nat.le_refl _) _).trans (hb1.mono (by simp)))
      clear hb1
      go_wp2
      go_ret
      exact ⟨rfl, HB1.out⟩
    · by_cases k2 : 3 < k
      · rw [if_pos (.inr k2)] at hr
        subst hr
        clear CR
        go_enter Tryz.func22, Tryz.ntmps22
        go_wp2_with fail
        refine (CP.out _).mono ?_
        rintro e w1 ⟨rfl, hb1⟩
        have hs1 : w.heap.size < w1.heap.size := by have := hb1.size; simp at this; omega
        have c0 : w1.cell? ⟨w.heap.size, 0, none⟩ = some (.string _) := (hb1.cell (by simp)).trans (by simp; rfl)
        have c1 : w1.cell? ⟨w.heap.size, 1, none⟩ = some (.int .i64 _) := (hb1.cell (by simp)).trans (by simp; rfl)
        have c2 : w1.cell? ⟨w.heap.size, 2, none⟩ = some (.int .i64 _) := (hb1.cell (by simp)).trans (by simp; rfl)
        have c3 : w1.cell? ⟨w.heap.size, 3, none⟩ = some (.string _) := (hb1.cell (by simp)).trans (by simp; rfl)
        have c4 : w1.cell? ⟨w.heap.size, 4, none⟩ = some (.string _) := (hb1.cell (by simp)).trans (by simp; rfl)
        have HB1 : Hid (Below w.heap.size w w1) := Lib.hid ((Below.alloc (Below.refl _ _) (Nat.le_refl _) _).trans (hb1.mono (by simp)))
        clear hb1
        go_wp2
        go_ret
        exact ⟨rfl, HB1.out⟩
      · rw [if_neg (by omega)] at hr
        by_cases m0 : m < 0
        · rw [if_pos (.inl m0)] at hr
          subst hr
          clear CR
          go_enter Tryz.func22, Tryz.ntmps22
          go_wp2_with fail
          refine (CP.out _).mono ?_
          rintro e w1 ⟨rfl, hb1⟩
          have hs1 : w.heap.size < w1.heap.size := by have := hb1.size; simp at this; omega
          have c0 : w1.cell? ⟨w.heap.size, 0, none⟩ = some (.string _) := (hb1.cell (by simp)).trans (by simp; rfl)
          have c1 : w1.cell? ⟨w.heap.size, 1, none⟩ = some (.int .i64 _) := (hb1.cell (by simp)).trans (by simp; rfl)
          have c2 : w1.cell? ⟨w.heap.size, 2, none⟩ = some (.int .i64 _) := (hb1.cell (by simp)).trans (by simp; rfl)
          have c3 : w1.cell? ⟨w.heap.size, 3, none⟩ = some (.string _) := (hb1.cell (by simp)).trans (by simp; rfl)
          have c4 : w1.cell? ⟨w.heap.size, 4, none⟩ = some (.string _) := (hb1.cell (by simp)).trans (by simp; rfl)
          have HB1 : Hid (Below w.heap.size w w1) := Lib.hid ((Below.alloc (Below.refl _ _) (Nat.le_refl _) _).trans (hb1.mono (by simp)))
          clear hb1
          go_wp2
          go_ret
          exact ⟨rfl, HB1.out⟩
        · by_cases m1 : 4095 < m
          · rw [if_pos (.inr (.inl m1))] at hr
            subst hr
            clear CR
            go_enter Tryz.func22, Tryz.ntmps22
            go_wp2_with fail
            refine (CP.out _).mono ?_
            rintro e w1 ⟨rfl, hb1⟩
            have hs1 : w.heap.size < w1.heap.size := by have := hb1.size; simp at this; omega
            have c0 : w1.cell? ⟨w.heap.size, 0, none⟩ = some (.string _) := (hb1.cell (by simp)).trans (by simp; rfl)
            have c1 : w1.cell? ⟨w.heap.size, 1, none⟩ = some (.int .i64 _) := (hb1.cell (by simp)).trans (by simp; rfl)
            have c2 : w1.cell? ⟨w.heap.size, 2, none⟩ = some (.int .i64 _) := (hb1.cell (by simp)).trans (by simp; rfl)
            have c3 : w1.cell? ⟨w.heap.size, 3, none⟩ = some (.string _) := (hb1.cell (by simp)).trans (by simp; rfl)
            have c4 : w1.cell? ⟨w.heap.size, 4, none⟩ = some (.string _) := (hb1.cell (by simp)).trans (by simp; rfl)
            have HB1 : Hid (Below w.heap.size w w1) := Lib.hid ((Below.alloc (Below.refl _ _) (Nat.le_refl _) _).trans (hb1.mono (by simp)))
            clear hb1
            go_wp2
            go_ret
            exact ⟨rfl, HB1.out⟩
          · by_cases k3 : k = 3
            · subst k3
              by_cases m2 : m = 511
              · subst m2
                rw [if_neg (by omega)] at hr
                clear hpl
                by_cases h2 : L s = []
                · have e2 := nil_empty h2
                  by_cases h1 : 4095 < d.size
                  · replace hr : r = 18 := by rw [hr]; simp [bodyE, h1, h2]
                    clear h2 CR
                    have HR := Lib.hid hr
                    clear hr
                    go_enter Tryz.func22, Tryz.ntmps22
                    go_wp2_with fail
                    refine (CP.out _).mono ?_
                    rintro e w1 ⟨rfl, hb1⟩
                    have hs1 : w.heap.size < w1.heap.size := by have := hb1.size; simp at this; omega
                    have c0 : w1.cell? ⟨w.heap.size, 0, none⟩ = some (.string _) := (hb1.cell (by simp)).trans (by simp; rfl)
                    have c1 : w1.cell? ⟨w.heap.size, 1, none⟩ = some (.int .i64 _) := (hb1.cell (by simp)).trans (by simp; rfl)
                    have c2 : w1.cell? ⟨w.heap.size, 2, none⟩ = some (.int .i64 _) := (hb1.cell (by simp)).trans (by simp; rfl)
                    have c3 : w1.cell? ⟨w.heap.size, 3, none⟩ = some (.string _) := (hb1.cell (by simp)).trans (by simp; rfl)
                    have c4 : w1.cell? ⟨w.heap.size, 4, none⟩ = some (.string _) := (hb1.cell (by simp)).trans (by simp; rfl)
                    have HB1 : Hid (Below w.heap.size w w1) := Lib.hid ((Below.alloc (Below.refl _ _) (Nat.le_refl _) _).trans (hb1.mono (by simp)))
                    clear hb1
                    go_wp2
                    go_ret
                    exact ⟨ret_int HR.out.symm, HB1.out⟩
                  · cases hrr : rightB (L d) with
                    | true =>
                      rw [hrr] at CR
                      replace hr : r = 0 := by rw [hr]; simp [bodyE, h1, h2, hrr]
                      clear h2 hrr
                      have HR := Lib.hid hr
                      clear hr
                      go_enter Tryz.func22, Tryz.ntmps22
                      go_wp2_with fail
                      refine (CP.out _).mono ?_
                      rintro e w1 ⟨rfl, hb1⟩
                      have hs1 : w.heap.size < w1.heap.size := by have := hb1.size; simp at this; omega
                      have c0 : w1.cell? ⟨w.heap.size, 0, none⟩ = some (.string _) := (hb1.cell (by simp)).trans (by simp; rfl)
                      have c1 : w1.cell? ⟨w.heap.size, 1, none⟩ = some (.int .i64 _) := (hb1.cell (by simp)).trans (by simp; rfl)
                      have c2 : w1.cell? ⟨w.heap.size, 2, none⟩ = some (.int .i64 _) := (hb1.cell (by simp)).trans (by simp; rfl)
                      have c3 : w1.cell? ⟨w.heap.size, 3, none⟩ = some (.string _) := (hb1.cell (by simp)).trans (by simp; rfl)
                      have c4 : w1.cell? ⟨w.heap.size, 4, none⟩ = some (.string _) := (hb1.cell (by simp)).trans (by simp; rfl)
                      have HB1 : Hid (Below w.heap.size w w1) := Lib.hid ((Below.alloc (Below.refl _ _) (Nat.le_refl _) _).trans (hb1.mono (by simp)))
                      clear hb1
                      go_wp2_with fail
                      refine (CR.out _).mono ?_
                      rintro e w2 ⟨rfl, rfl⟩
                      go_wp2
                      go_ret
                      exact ⟨ret_int HR.out.symm, HB1.out⟩
                    | false =>
                      rw [hrr] at CR
                      replace hr : r = 11 := by rw [hr]; simp [bodyE, h1, h2, hrr]
                      clear h2 hrr
                      have HR := Lib.hid hr
                      clear hr
                      go_enter Tryz.func22, Tryz.ntmps22
                      go_wp2_with fail
                      refine (CP.out _).mono ?_
                      rintro e w1 ⟨rfl, hb1⟩
                      have hs1 : w.heap.size < w1.heap.size := by have := hb1.size; simp at this; omega
                      have c0 : w1.cell? ⟨w.heap.size, 0, none⟩ = some (.string _) := (hb1.cell (by simp)).trans (by simp; rfl)
                      have c1 : w1.cell? ⟨w.heap.size, 1, none⟩ = some (.int .i64 _) := (hb1.cell (by simp)).trans (by simp; rfl)
                      have c2 : w1.cell? ⟨w.heap.size, 2, none⟩ = some (.int .i64 _) := (hb1.cell (by simp)).trans (by simp; rfl)
                      have c3 : w1.cell? ⟨w.heap.size, 3, none⟩ = some (.string _) := (hb1.cell (by simp)).trans (by simp; rfl)
                      have c4 : w1.cell? ⟨w.heap.size, 4, none⟩ = some (.string _) := (hb1.cell (by simp)).trans (by simp; rfl)
                      have HB1 : Hid (Below w.heap.size w w1) := Lib.hid ((Below.alloc (Below.refl _ _) (Nat.le_refl _) _).trans (hb1.mono (by simp)))
                      clear hb1
                      go_wp2_with fail
                      refine (CR.out _).mono ?_
                      rintro e w2 ⟨rfl, rfl⟩
                      go_wp2
                      go_ret
                      exact ⟨ret_int HR.out.symm, HB1.out⟩
                · have e2 := ne_empty h2
                  replace hr : r = 43 := by rw [hr]; simp [bodyE, h2]
                  clear h2 CR
                  have HR := Lib.hid hr
                  clear hr
                  go_enter Tryz.func22, Tryz.ntmps22
                  go_wp2_with fail
                  refine (CP.out _).mono ?_
                  rintro e w1 ⟨rfl, hb1⟩
                  have hs1 : w.heap.size < w1.heap.size := by have := hb1.size; simp at this; omega
                  have c0 : w1.cell? ⟨w.heap.size, 0, none⟩ = some (.string _) := (hb1.cell (by simp)).trans (by simp; rfl)
                  have c1 : w1.cell? ⟨w.heap.size, 1, none⟩ = some (.int .i64 _) := (hb1.cell (by simp)).trans (by simp; rfl)
                  have c2 : w1.cell? ⟨w.heap.size, 2, none⟩ = some (.int .i64 _) := (hb1.cell (by simp)).trans (by simp; rfl)
                  have c3 : w1.cell? ⟨w.heap.size, 3, none⟩ = some (.string _) := (hb1.cell (by simp)).trans (by simp; rfl)
                  have c4 : w1.cell? ⟨w.heap.size, 4, none⟩ = some (.string _) := (hb1.cell (by simp)).trans (by simp; rfl)
                  have HB1 : Hid (Below w.heap.size w w1) := Lib.hid ((Below.alloc (Below.refl _ _) (Nat.le_refl _) _).trans (hb1.mono (by simp)))
                  clear hb1
                  go_wp2
                  go_ret
                  exact ⟨ret_int HR.out.symm, HB1.out⟩
              · rw [if_pos (by omega)] at hr
                have e2 : (m != 511) = true := by simpa using m2
                clear CR hpl m2
                subst hr
                go_enter Tryz.func22, Tryz.ntmps22
                go_wp2_with fail
                refine (CP.out _).mono ?_
                rintro e w1 ⟨rfl, hb1⟩
                have hs1 : w.heap.size < w1.heap.size := by have := hb1.size; simp at this; omega
                have c0 : w1.cell? ⟨w.heap.size, 0, none⟩ = some (.string _) := (hb1.cell (by simp)).trans (by simp; rfl)
                have c1 : w1.cell? ⟨w.heap.size, 1, none⟩ = some (.int .i64 _) := (hb1.cell (by simp)).trans (by simp; rfl)
                have c2 : w1.cell? ⟨w.heap.size, 2, none⟩ = some (.int .i64 _) := (hb1.cell (by simp)).trans (by simp; rfl)
                have c3 : w1.cell? ⟨w.heap.size, 3, none⟩ = some (.string _) := (hb1.cell (by simp)).trans (by simp; rfl)
                have c4 : w1.cell? ⟨w.heap.size, 4, none⟩ = some (.string _) := (hb1.cell (by simp)).trans (by simp; rfl)
                have HB1 : Hid (Below w.heap.size w w1) := Lib.hid ((Below.alloc (Below.refl _ _) (Nat.le_refl _) _).trans (hb1.mono (by simp)))
                clear hb1
                go_wp2
                go_ret
                exact ⟨rfl, HB1.out⟩
            · rw [if_neg (by omega)] at hr
              clear hpl
              by_cases kk1 : k = 1
              · subst kk1
                clear k3
                by_cases h1 : 4194304 < d.size
                · replace hr : r = 18 := by rw [hr]; simp [bodyE, h1]
                  clear CR
                  have HR := Lib.hid hr
                  clear hr
                  go_enter Tryz.func22, Tryz.ntmps22
                  go_wp2_with fail
                  refine (CP.out _).mono ?_
                  rintro e w1 ⟨rfl, hb1⟩
                  have hs1 : w.heap.size < w1.heap.size := by have := hb1.size; simp at this; omega
                  have c0 : w1.cell? ⟨w.heap.size, 0, none⟩ = some (.string _) := (hb1.cell (by simp)).trans (by simp; rfl)
                  have c1 : w1.cell? ⟨w.heap.size, 1, none⟩ = some (.int .i64 _) := (hb1.cell (by simp)).trans (by simp; rfl)
                  have c2 : w1.cell? ⟨w.heap.size, 2, none⟩ = some (.int .i64 _) := (hb1.cell (by simp)).trans (by simp; rfl)
                  have c3 : w1.cell? ⟨w.heap.size, 3, none⟩ = some (.string _) := (hb1.cell (by simp)).trans (by simp; rfl)
                  have c4 : w1.cell? ⟨w.heap.size, 4, none⟩ = some (.string _) := (hb1.cell (by simp)).trans (by simp; rfl)
                  have HB1 : Hid (Below w.heap.size w w1) := Lib.hid ((Below.alloc (Below.refl _ _) (Nat.le_refl _) _).trans (hb1.mono (by simp)))
                  clear hb1
                  go_wp2
                  go_ret
                  exact ⟨ret_int HR.out.symm, HB1.out⟩
                · replace hr : r = 0 := by rw [hr]; simp [bodyE, h1]
                  clear CR
                  have HR := Lib.hid hr
                  clear hr
                  go_enter Tryz.func22, Tryz.ntmps22
                  go_wp2_with fail
                  refine (CP.out _).mono ?_
                  rintro e w1 ⟨rfl, hb1⟩
                  have hs1 : w.heap.size < w1.heap.size := by have := hb1.size; simp at this; omega
                  have c0 : w1.cell? ⟨w.heap.size, 0, none⟩ = some (.string _) := (hb1.cell (by simp)).trans (by simp; rfl)
                  have c1 : w1.cell? ⟨w.heap.size, 1, none⟩ = some (.int .i64 _) := (hb1.cell (by simp)).trans (by simp; rfl)
                  have c2 : w1.cell? ⟨w.heap.size, 2, none⟩ = some (.int .i64 _) := (hb1.cell (by simp)).trans (by simp; rfl)
                  have c3 : w1.cell? ⟨w.heap.size, 3, none⟩ = some (.string _) := (hb1.cell (by simp)).trans (by simp; rfl)
                  have c4 : w1.cell? ⟨w.heap.size, 4, none⟩ = some (.string _) := (hb1.cell (by simp)).trans (by simp; rfl)
                  have HB1 : Hid (Below w.heap.size w w1) := Lib.hid ((Below.alloc (Below.refl _ _) (Nat.le_refl _) _).trans (hb1.mono (by simp)))
                  clear hb1
                  go_wp2
                  go_ret
                  exact ⟨ret_int HR.out.symm, HB1.out⟩
              · obtain rfl : k = 2 := by omega
                clear kk1 k3
                by_cases h1 : L d = []
                · have e1 := nil_empty h1
                  by_cases h2 : L s = []
                  · have e2 := nil_empty h2
                    replace hr : r = 0 := by rw [hr]; simp [bodyE, h1, h2]
                    clear CR h1 h2
                    have HR := Lib.hid hr
                    clear hr
                    go_enter Tryz.func22, Tryz.ntmps22
                    go_wp2_with fail
                    refine (CP.out _).mono ?_
                    rintro e w1 ⟨rfl, hb1⟩
                    have hs1 : w.heap.size < w1.heap.size := by have := hb1.size; simp at this; omega
                    have c0 : w1.cell? ⟨w.heap.size, 0, none⟩ = some (.string _) := (hb1.cell (by simp)).trans (by simp; rfl)
                    have c1 : w1.cell? ⟨w.heap.size, 1, none⟩ = some (.int .i64 _) := (hb1.cell (by simp)).trans (by simp; rfl)
                    have c2 : w1.cell? ⟨w.heap.size, 2, none⟩ = some (.int .i64 _) := (hb1.cell (by simp)).trans (by simp; rfl)
                    have c3 : w1.cell? ⟨w.heap.size, 3, none⟩ = some (.string _) := (hb1.cell (by simp)).trans (by simp; rfl)
                    have c4 : w1.cell? ⟨w.heap.size, 4, none⟩ = some (.string _) := (hb1.cell (by simp)).trans (by simp; rfl)
                    have HB1 : Hid (Below w.heap.size w w1) := Lib.hid ((Below.alloc (Below.refl _ _) (Nat.le_refl _) _).trans (hb1.mono (by simp)))
                    clear hb1
                    go_wp2
                    go_ret
                    exact ⟨ret_int HR.out.symm, HB1.out⟩
                  · have e2 := ne_empty h2
                    replace hr : r = 43 := by rw [hr]; simp [bodyE, h2]
                    clear CR h1 h2
                    have HR := Lib.hid hr
                    clear hr
                    go_enter Tryz.func22, Tryz.ntmps22
                    go_wp2_with fail
                    refine (CP.out _).mono ?_
                    rintro e w1 ⟨rfl, hb1⟩
                    have hs1 : w.heap.size < w1.heap.size := by have := hb1.size; simp at this; omega
                    have c0 : w1.cell? ⟨w.heap.size, 0, none⟩ = some (.string _) := (hb1.cell (by simp)).trans (by simp; rfl)
                    have c1 : w1.cell? ⟨w.heap.size, 1, none⟩ = some (.int .i64 _) := (hb1.cell (by simp)).trans (by simp; rfl)
                    have c2 : w1.cell? ⟨w.heap.size, 2, none⟩ = some (.int .i64 _) := (hb1.cell (by simp)).trans (by simp; rfl)
                    have c3 : w1.cell? ⟨w.heap.size, 3, none⟩ = some (.string _) := (hb1.cell (by simp)).trans (by simp; rfl)
                    have c4 : w1.cell? ⟨w.heap.size, 4, none⟩ = some (.string _) := (hb1.cell (by simp)).trans (by simp; rfl)
                    have HB1 : Hid (Below w.heap.size w w1) := Lib.hid ((Below.alloc (Below.refl _ _) (Nat.le_refl _) _).trans (hb1.mono (by simp)))
                    clear hb1
                    go_wp2
                    go_ret
                    exact ⟨ret_int HR.out.symm, HB1.out⟩
                · have e1 := ne_empty h1
                  replace hr : r = 43 := by rw [hr]; simp [bodyE, h1]
                  clear CR h1
                  have HR := Lib.hid hr
                  clear hr
                  go_enter Tryz.func22, Tryz.ntmps22
                  go_wp2_with fail
                  refine (CP.out _).mono ?_
                  rintro e w1 ⟨rfl, hb1⟩
                  have hs1 : w.heap.size < w1.heap.size := by have := hb1.size; simp at this; omega
                  have c0 : w1.cell? ⟨w.heap.size, 0, none⟩ = some (.string _) := (hb1.cell (by simp)).trans (by simp; rfl)
                  have c1 : w1.cell? ⟨w.heap.size, 1, none⟩ = some (.int .i64 _) := (hb1.cell (by simp)).trans (by simp; rfl)
                  have c2 : w1.cell? ⟨w.heap.size, 2, none⟩ = some (.int .i64 _) := (hb1.cell (by simp)).trans (by simp; rfl)
                  have c3 : w1.cell? ⟨w.heap.size, 3, none⟩ = some (.string _) := (hb1.cell (by simp)).trans (by simp; rfl)
                  have c4 : w1.cell? ⟨w.heap.size, 4, none⟩ = some (.string _) := (hb1.cell (by simp)).trans (by simp; rfl)
                  have HB1 : Hid (Below w.heap.size w w1) := Lib.hid ((Below.alloc (Below.refl _ _) (Nat.le_refl _) _).trans (hb1.mono (by simp)))
                  clear hb1
                  go_wp2
                  go_ret
                  exact ⟨ret_int HR.out.symm, HB1.out⟩
end Go.Proofs.YtmlgmedapbeleaaGreatDoor
/-
  Slices of items; the walks of both Finds, of up, slashless, Bytes, Short.
-/
namespace Go.Proofs.YtmlgmedapbeleaaGreatDoor
open Go.RowKit

/-- v holds the items l. -/
abbrev Tr (w : World) (B : Nat) (v : Value) (l : List It) : Prop := Sl w B 5 v l.length (l.flatMap itC)
theorem it_at {w : World} {B : Nat} {v : Value} {l : List It} (h : Tr w B v l) (T E : Nat) (hT : Tryz.prog.underlying T = some (.slice E)) (hs : (Tryz.prog.info? E).map (·.size) = some 5) {k : Nat} {x : It} (hx : l[k]? = some x) (i : Int) (hi : i = k) :
    ∃ b o, (∀ w' : World, (Instr.indexAt T v (.int .i64 i)).run Tryz.prog w' = .ok (.pointer (some ⟨b, o, none⟩)) w') ∧ b < B ∧ ItAt w b o x := by
  subst hi
  have hk := (List.getElem?_eq_some_iff.1 hx).1
  obtain ⟨a, cap, b, off, rfl, _, _, h1, h2, h3⟩ := h.open (P := Tryz.prog) T E hT hs
  have g := flat_get itC 5 itC_len l k x hx
  refine ⟨b, off + k * 5, fun w' => h1 k w' hk, by omega, ?_, ?_, ?_, ?_, ?_⟩
  · rw [show off + k * 5 = off + (k * 5 + 0) by omega, h3 _ (by omega), g 0 (by omega)]; rfl
  · rw [show off + k * 5 + 1 = off + (k * 5 + 1) by omega, h3 _ (by omega), g 1 (by omega)]; rfl
  · rw [show off + k * 5 + 2 = off + (k * 5 + 2) by omega, h3 _ (by omega), g 2 (by omega)]; rfl
  · rw [show off + k * 5 + 3 = off + (k * 5 + 3) by omega, h3 _ (by omega), g 3 (by omega)]; rfl
  · rw [show off + k * 5 + 4 = off + (k * 5 + 4) by omega, h3 _ (by omega), g 4 (by omega)]; rfl
theorem tr_shape {w : World} {B n size : Nat} {v : Value} {xs : List Value} (h : Sl w B size v n xs) : ∃ a cap, v = .slice a n cap ∧ n ≤ 9223372036854775807 := by
  have := h.len
  unfold maxLen at this
  obtain ⟨_, a, cap, e, _⟩ := h
  exact ⟨a, cap, e, this⟩
def noTo (l : List It) (t : List UInt8) (k : Nat) : Prop := ∀ j, j < k → ∀ y, l[j]? = some y → L y.p ≠ t
theorem noTo_succ {l : List It} {t : List UInt8} {k : Nat} {x : It} (h : noTo l t k) (hx : l[k]? = some x) (hp : L x.p ≠ t) : noTo l t (k + 1) := fun j hj y hy => by
  by_cases h1 : j < k
  · exact h j h1 y hy
  · obtain rfl : j = k := by omega
    rw [hx] at hy; cases hy; exact hp
theorem eq_L {a b : ByteArray} (h : L a = L b) : (a.toList == b.toList) = true := by rw [toList_L, toList_L, h]; simp
theorem ne_L {a b : ByteArray} (h : L a ≠ L b) : (a.toList == b.toList) = false := by rw [toList_L, toList_L]; simpa using h

theorem rfind_any (l : List It) (v : Value) (s : ByteArray) (w : World) (hl : Tr w w.heap.size v l) :
    Calls Tryz.prog 24 #[v, .string s] w fun e w' => e = .returned (.int .i64 (findZ l (L s))) ∧ w' = w := by
  obtain ⟨a, cap, rfl, hm⟩ := tr_shape hl
  obtain ⟨n, hn⟩ : ∃ n, n = l.length := ⟨_, rfl⟩
  rw [← hn] at hm
  have HL := Lib.hid hl
  have HN := Lib.hid hn
  clear hl
  rw [← hn]
  clear hn
  go_enter Tryz.func24, Tryz.ntmps24
  go_wp2_with fail
  go_loop [5] (fun i => ∃ k : Nat, k ≤ n ∧ i = .int .i64 k ∧ noTo l (L s) k) (fun i => n - (intOf i).toNat)
  case atStart => exact ⟨0, Nat.zero_le _, rfl, fun j hj => by omega⟩
  case round =>
    obtain ⟨k, hk, rfl, hno⟩ := hrel
    have HNO := Lib.hid hno
    clear hno
    by_cases hlt : k < n
    · obtain ⟨x, hx⟩ : ∃ x, l[k]? = some x := ⟨_, List.getElem?_eq_getElem (by rw [← HN.out]; exact hlt)⟩
      obtain ⟨b1, o1, i1, hb1, c1⟩ := it_at HL.out 40 71 Tryz.underlying40 (by kernel_rfl) hx (k : Int) rfl
      have c2 := c1.p
      rw [← HN.out] at i1
      have HX := Lib.hid hx
      clear hx c1
      by_cases hp : L x.p = L s
      · have e1 := eq_L hp
        have HR : Hid (findZ l (L s) = k) := Lib.hid (by rw [findZ, findI_at HX.out hp HNO.out])
        clear hp
        go_wp2
        go_ret
        exact ⟨ret_int HR.out.symm, rfl⟩
      · have e1 := ne_L hp
        have HP := Lib.hid hp
        clear hp
        go_wp2
        go_round
        case rel => exact ⟨k + 1, by omega, by go_num, noTo_succ HNO.out HX.out HP.out⟩
        case measure => simp [intOf]; omega
    · obtain rfl : k = n := by omega
      have HR : Hid (findZ l (L s) = -1) := Lib.hid (by rw [findZ, findI_end (by rw [← HN.out]; exact HNO.out)])
      go_wp2
      go_ret
      exact ⟨ret_int HR.out.symm, rfl⟩

end Go.Proofs.YtmlgmedapbeleaaGreatDoor
/-
  The walk of Insert, at the end of a row.
-/
namespace Go.Proofs.YtmlgmedapbeleaaGreatDoor
open Go.RowKit

theorem infoE : (Tryz.prog.info? 84).map (fun i => (i.zero, i.size, i.bytes)) = some (some (.agg #[.string ⟨#[]⟩, .int .i64 0]), 2, 24) := by kernel_rfl

set_option maxHeartbeats 2000000 in
set_option maxRecDepth 100000 in
theorem insert_any {w : World} {B : Nat} {r : Value} {n : Nat} {xs : List Value} (h : w.ownsRow B 84 2 r n xs) (hB : B ≤ w.heap.size) (hn : n ≤ 100) {vs : Value} (x : ByteArray × Int) (hv : Sl w w.heap.size 2 vs 1 (enC x)) :
    Calls Tryz.prog 45 #[r, .int .i64 (n : Int), vs] w fun e w' => ∃ g cap, e = .returned (.slice (some ⟨g, 0, none⟩) (n + 1) cap) ∧
      w'.ownsRow B 84 2 (.slice (some ⟨g, 0, none⟩) (n + 1) cap) (n + 1) (xs ++ enC x) ∧ w.grownBy w' r.ownBlock ∧ (r.ownBlock = some g ∨ g = w.heap.size) := by
  have HO := Lib.hid h
  have HV := Lib.hid hv
  have hcut := (Sl.of_own h).cut (P := Tryz.prog) 47 84 Tryz.underlying47 (by kernel_rfl) (Nat.le_refl n)
  obtain ⟨oa, oc, rfl, _⟩ := tr_shape (Sl.of_own h)
  obtain ⟨va, vc, rfl, _⟩ := tr_shape hv
  obtain ⟨cv, hcv, _⟩ := hcut
  have HN := Lib.hid hn
  have h1 : ∀ u ∈ enC x, u.oneCell' = true := fun u hu => by
    simp only [enC, List.mem_cons, List.not_mem_nil, or_false] at hu
    rcases hu with rfl | rfl <;> rfl
  have H1 := Lib.hid h1
  clear h hv hn h1
  go_enter Tryz.func45, Tryz.ntmps45
  go_wp2_with (at_builtin; go_must ((refine append_sl2 rfl _ _ 47 rfl B 84 Tryz.underlying47 infoE rfl (by decide) (v := .slice oa n oc) (n := n) (xs := xs) rfl HO.out (m := 1) (news := enC x) rfl HV.out (by omega) H1.out (by have := HN.out; omega) (by unfold maxLen; have := HN.out; omega) hB ?_); intro g1 cap1 w5 hown hgrow hlie hglt; have HO5 := Lib.hid hown; have HG5 := Lib.hid hgrow; have HL5 := Lib.hid hlie; clear hown hgrow hlie hglt))
  go_ret
  exact ⟨g1, cap1, rfl, HO5.out, HG5.out, HL5.out⟩
end Go.Proofs.YtmlgmedapbeleaaGreatDoor
/-
  The walks of find, Put of a directory, and Enter, for a name behind all that there are.
-/
namespace Go.Proofs.YtmlgmedapbeleaaGreatDoor
open Go.RowKit

set_option maxRecDepth 100000 in
theorem find_new (es : List (ByteArray × Int)) (v : Value) (t : ByteArray) (w : World) (g o : Nat) (hc : w.cell? ⟨g, o, none⟩ = some v) (hs : Sl w w.heap.size 2 v es.length (es.flatMap enC)) (hlt : ∀ x ∈ es, L x.1 < L t) (h30 : es.length ≤ 100) :
    Calls Tryz.prog 43 #[.pointer (some ⟨g, o, none⟩), .string t] w fun e w' => e = .returned (.tuple #[.int .i64 (es.length : Int), .bool false]) ∧ Below w.heap.size w w' := by
  have C1 := Lib.hid (bsearch_any es v t w hs hlt h30)
  obtain ⟨n, hn⟩ : ∃ n, n = es.length := ⟨_, rfl⟩
  rw [← hn] at C1 ⊢
  clear hs hlt h30 hn
  go_enter Tryz.func43, Tryz.ntmps43
  go_wp2_with fail
  refine C1.out.mono ?_
  rintro e w1 ⟨rfl, hb⟩
  go_wp2_with fail
  go_ret2
  exact ⟨rfl, hb⟩

section
variable {w w' : World} {B db mb : Nat} {ns : List Nd} {ps : List Pl} {used : Int} {n : Nd} {p : Pl}
theorem Stay.row {base size : Nat} {v : Value} {c : Nat} {xs : List Value} (h : w.ownsRow base 84 size v c xs) (hg : w.grownBy w' v.ownBlock) : Stay mb w w' := by
  refine ⟨fun b cs t fr hb h1 h2 h3 => hg.block b (Array.getElem?_eq_some_iff.1 hb).1 fun e => ?_, fun b es c hb h1 => hg.block b (Array.getElem?_eq_some_iff.1 hb).1 fun e => ?_⟩
  · rcases h.2 with ⟨h4, _⟩ | ⟨b', cap, cur, h4, _, h5, _⟩
    · rw [h4] at e; simp [Value.ownBlock] at e
    · rw [h4] at e
      obtain rfl : b = b' := by simpa [Value.ownBlock] using e
      rw [h5] at hb
      simp only [Option.some.injEq, Obj.cells.injEq] at hb
      exact h3 hb.2.1.symm
  · rcases h.2 with ⟨h4, _⟩ | ⟨b', cap, cur, h4, _, h5, _⟩
    · rw [h4] at e; simp [Value.ownBlock] at e
    · rw [h4] at e
      obtain rfl : b = b' := by simpa [Value.ownBlock] using e
      rw [h5] at hb
      cases hb

set_option maxHeartbeats 2000000 in
set_option maxRecDepth 100000 in
theorem dput_any (h : Dk w B db mb ns ps used) {i : Nat} (hn : ns[i]? = some n) (hp : ps[i]? = some p) (t : ByteArray) (k : Int) (hlt : ∀ x ∈ n.e, L x.1 < L t) (h30 : n.e.length ≤ 99) (ht : nameB (L t) = true) (hB : B ≤ w.heap.size) :
    Calls Tryz.prog 28 #[.pointer (some ⟨p.b, 5, none⟩), .string t, .int .i64 k] w fun e w' => e = .returned (.int .i64 0) ∧
      (∃ ps', Dk w' B db mb (ns.set i { n with e := n.e ++ [(t, k)] }) ps' used ∧ ∀ (m : Nat) (q : Pl), ps[m]? = some q → ∃ q', ps'[m]? = some q' ∧ q'.b = q.b) ∧ Stay mb w w' ∧ Below B w w' := by
  have k0 := h.node i n p hn hp
  have c5 : w.cell? ⟨p.b, 5, none⟩ = some p.r := k0.box.cell 5
  have C1 := Lib.hid (find_new n.e p.r t w p.b 5 c5 (Sl.of_own k0.row) hlt (by omega))
  have hts : t.size ≤ 255 := by
    simp only [nameB, Bool.and_eq_true, decide_eq_true_eq, L_size] at ht
    exact of_decide_eq_true ht.1.1.1.1.2
  have C2 : Hid (∀ W, Calls Tryz.prog 44 #[.string t] W fun e w' => e = .returned (.bool true) ∧ W = w') := Lib.hid fun W => by
    have := name_any t W (by omega)
    rw [ht] at this
    exact this
  have hd : decide ((255 : Int) < (t.size : Int)) = false := decide_eq_false (by omega)
  have CI : Hid (∀ (W : World) (vs : Value), Dk W B db mb ns ps used → Sl W W.heap.size 2 vs 1 (enC (t, k)) → B ≤ W.heap.size → Calls Tryz.prog 45 #[p.r, .int .i64 (n.e.length : Int), vs] W fun e w' => ∃ g cap, e = .returned (.slice (some ⟨g, 0, none⟩) (n.e.length + 1) cap) ∧
      w'.ownsRow B 84 2 (.slice (some ⟨g, 0, none⟩) (n.e.length + 1) cap) (n.e.length + 1) (n.e.flatMap enC ++ enC (t, k)) ∧ W.grownBy w' p.r.ownBlock ∧ (p.r.ownBlock = some g ∨ g = W.heap.size)) := Lib.hid fun W vs hW hv hb => insert_any (hW.node i n p hn hp).row hb (by omega) (t, k) hv
  have HH := Lib.hid h
  have HB := Lib.hid hB
  have HN := Lib.hid hn
  have HP := Lib.hid hp
  have hpb : p.b < w.heap.size := k0.box.lt
  obtain ⟨m, hm⟩ : ∃ m, m = n.e.length := ⟨_, rfl⟩
  rw [← hm] at C1 CI
  have HM := Lib.hid hm
  clear h hlt h30 ht hB k0 hts hm hn hp
  go_enter Tryz.func28, Tryz.ntmps28
  go_wp2_with fail
  refine C1.out.mono ?_
  rintro e w1 ⟨rfl, hb1⟩
  have c51 : w1.cell? ⟨p.b, 5, none⟩ = some p.r := (hb1.cell (p := ⟨p.b, 5, none⟩) hpb).trans c5
  have H1 := Lib.hid (HH.out.below hb1)
  have HB1 := Lib.hid hb1
  clear hb1 c5
  go_wp2_with fail
  refine (C2.out _).mono ?_
  rintro e w2 ⟨rfl, rfl⟩
  go_wp2_with fail
  obtain ⟨W2, hW2⟩ : ∃ W2, W2 = w1.alloc (.cells #[.string t, .int .i64 k] 84) := ⟨_, rfl⟩
  have hb2 : Below w1.heap.size w1 W2 := by rw [hW2]; exact (Below.refl _ _).alloc (Nat.le_refl _) _
  have hbw : Below w.heap.size w W2 := HB1.out.trans (hb2.mono HB1.out.size)
  have H2 := Lib.hid (H1.out.below hb2)
  have hsl : Sl W2 W2.heap.size 2 (.slice (some ⟨w1.heap.size, 0, none⟩) 1 1) 1 (enC (t, k)) := by
    rw [hW2]; exact sl_made_at w1 #[.string t, .int .i64 k] _ 1 2 rfl (by unfold maxLen; omega) rfl
  have hB2 : B ≤ W2.heap.size := Nat.le_trans HB.out hbw.size
  have CJ := Lib.hid (CI.out W2 _ H2.out hsl hB2)
  rw [← hW2]
  have k2 := H2.out.node i n p HN.out HP.out
  have HBW := Lib.hid hbw
  clear hW2 hb2 hsl hbw c51
  refine CJ.out.mono ?_
  rintro e w3 ⟨g, cap, rfl, hrow, hg, hlie⟩
  have kb : Blk w3 p.b 51 (ndC n p) := k2.box.grown hg (own_ne_blk k2.row k2.box (by decide))
  have z5 : w3.frozen? ⟨p.b, 5, none⟩ = false := kb.free 5
  have c53 : w3.cell? ⟨p.b, 5, none⟩ = some p.r := kb.cell 5
  have hst : Stay mb w w3 := (Stay.below HBW.out).trans (Stay.row k2.row hg)
  have hbl : Below B w w3 := (HBW.out.mono HB.out).grown hg hB2 fun q hq => (own_size k2.row hq).2
  have HROW := Lib.hid hrow
  have HG := Lib.hid hg
  have HLI := Lib.hid hlie
  have HST := Lib.hid hst
  have HBL := Lib.hid hbl
  have KB := Lib.hid kb
  clear hrow hg hlie hst hbl kb k2 hB2
  go_wp2_with fail
  go_ret
  have hq := HM.out
  subst hq
  exact ⟨rfl, ⟨_, H2.out.row HN.out HP.out HG.out (t, k) (HLI.out.imp id fun h => by omega) HROW.out, fun m q hq => by
    by_cases e : i = m
    · subst e
      rw [HP.out] at hq
      cases hq
      exact ⟨_, List.getElem?_set_self (List.getElem?_eq_some_iff.1 HP.out).1, rfl⟩
    · exact ⟨q, by rw [List.getElem?_set_ne e]; exact hq, rfl⟩⟩, HST.out.trans (Stay.set KB.out (.inr (.inl rfl)) _), HBL.out.setCell (H2.out.node i n p HN.out HP.out).low _⟩
end
end Go.Proofs.YtmlgmedapbeleaaGreatDoor
/-
  The walk of Enter, for a name behind all that there are.
-/
namespace Go.Proofs.YtmlgmedapbeleaaGreatDoor
open Go.RowKit

section
variable {w w' : World} {B db mb : Nat} {ns : List Nd} {ps : List Pl} {used : Int} {n x : Nd} {p q : Pl}
/-- What Enter makes of a node that is named. -/
def named (x : Nd) (i : Nat) : Nd := { x with n := x.n + 1, u := if x.k = 2 then (i : Int) + 1 else x.u }

theorem enter_end {w3 : World} {ns1 : List Nd} {ps' : List Pl} {q' : Pl} (h3 : Dk w3 B db mb ns1 ps' used) {i j : Nat} (hx1 : ns1[j]? = some x) (hq' : ps'[j]? = some q') (hqb : q'.b = q.b) (v : Int) (hv : v = x.n + 1) (hk : x.k ≠ 2) :
    (∃ ps'', Dk (w3.setCell ⟨q.b, 2, none⟩ (.int .i64 v)) B db mb (ns1.set j (named x i)) ps'' used) ∧ Stay mb w3 (w3.setCell ⟨q.b, 2, none⟩ (.int .i64 v)) ∧ Below B w3 (w3.setCell ⟨q.b, 2, none⟩ (.int .i64 v)) := by
  subst hv
  rw [← hqb]
  have k3 := h3.node j x q' hx1 hq'
  exact ⟨⟨ps', h3.setn hx1 hq' 2 _ _ (by simp [ndC, named, hk]) rfl rfl⟩, Stay.set k3.box (.inr (.inl rfl)) _, (Below.refl _ _).setCell k3.low _⟩
theorem enter_end2 {w3 : World} {ns1 : List Nd} {ps' : List Pl} {q' : Pl} (h3 : Dk w3 B db mb ns1 ps' used) {i j : Nat} (hx1 : ns1[j]? = some x) (hq' : ps'[j]? = some q') (hqb : q'.b = q.b) (v : Int) (hv : v = x.n + 1) (hk : x.k = 2) :
    (∃ ps'', Dk ((w3.setCell ⟨q.b, 2, none⟩ (.int .i64 v)).setCell ⟨q.b, 6, none⟩ (.int .i64 ((i : Int) + 1))) B db mb (ns1.set j (named x i)) ps'' used) ∧ Stay mb w3 ((w3.setCell ⟨q.b, 2, none⟩ (.int .i64 v)).setCell ⟨q.b, 6, none⟩ (.int .i64 ((i : Int) + 1))) ∧ Below B w3 ((w3.setCell ⟨q.b, 2, none⟩ (.int .i64 v)).setCell ⟨q.b, 6, none⟩ (.int .i64 ((i : Int) + 1))) := by
  subst hv
  rw [← hqb]
  have k3 := h3.node j x q' hx1 hq'
  have hjl := (List.getElem?_eq_some_iff.1 hx1).1
  have h4 := h3.setn hx1 hq' 2 (.int .i64 (x.n + 1)) { x with n := x.n + 1 } rfl rfl rfl
  have h5 := h4.setn (n := { x with n := x.n + 1 }) (List.getElem?_set_self hjl) hq' 6 (.int .i64 ((i : Int) + 1)) (named x i) (by simp [ndC, named, hk]) rfl rfl
  rw [List.set_set] at h5
  have k4 := h4.node j _ q' (List.getElem?_set_self hjl) hq'
  exact ⟨⟨ps', h5⟩, (Stay.set k3.box (.inr (.inl rfl)) _).trans (Stay.set k4.box (.inr (.inl rfl)) _), ((Below.refl _ _).setCell k3.low _).setCell k4.low _⟩

set_option maxHeartbeats 2000000 in
set_option maxRecDepth 100000 in
theorem enter_any (h : Dk w B db mb ns ps used) {i j : Nat} (hn : ns[i]? = some n) (hp : ps[i]? = some p) (hx : ns[j]? = some x) (hq : ps[j]? = some q) (hij : i ≠ j) (t : ByteArray) (hk : n.k = 2) (hxk : x.k = 2 → x.n = 0) (hx0 : 0 ≤ x.n ∧ x.n ≤ 100) (hlt : ∀ y ∈ n.e, L y.1 < L t) (h30 : n.e.length ≤ 99) (ht : nameB (L t) = true) (hl : ns.length ≤ 100) (h0 : 0 ≤ used) (hu : used + t.size ≤ 1048576) (hB : B ≤ w.heap.size) :
    Calls Tryz.prog 15 #[.pointer (some ⟨db, 0, none⟩), .int .i64 ((i : Int) + 1), .string t, .int .i64 ((j : Int) + 1)] w fun e w' => e = .returned (.int .i64 0) ∧
      (∃ ps', Dk w' B db mb ((ns.set i { n with e := n.e ++ [(t, (j : Int) + 1)] }).set j (named x i)) ps' (used + t.size)) ∧ Stay mb w w' ∧ Below B w w' := by
  have CF : Hid (∀ W, Dk W B db mb ns ps used → Calls Tryz.prog 27 #[.pointer (some ⟨db, 0, none⟩), .int .i64 ((i : Int) + 1)] W fun e w' => e = .returned (.tuple #[ptrV p, .int .i64 0]) ∧ Below W.heap.size W w') := Lib.hid fun W hW => folder_any hW hn hp hk hl
  have CP : Hid (∀ W, Dk W B db mb ns ps used → B ≤ W.heap.size → Calls Tryz.prog 28 #[.pointer (some ⟨p.b, 5, none⟩), .string t, .int .i64 ((j : Int) + 1)] W fun e w' => e = .returned (.int .i64 0) ∧
      (∃ ps', Dk w' B db mb (ns.set i { n with e := n.e ++ [(t, (j : Int) + 1)] }) ps' used ∧ ∀ (m : Nat) (q : Pl), ps[m]? = some q → ∃ q', ps'[m]? = some q' ∧ q'.b = q.b) ∧ Stay mb W w' ∧ Below B W w') := Lib.hid fun W hW hb => dput_any hW hn hp t _ hlt h30 ht hb
  obtain ⟨ns1, hns1⟩ : ∃ z, z = ns.set i { n with e := n.e ++ [(t, (j : Int) + 1)] } := ⟨_, rfl⟩
  rw [← hns1] at CP ⊢
  have hx1 : ns1[j]? = some x := by rw [hns1, List.getElem?_set_ne hij]; exact hx
  have CT : Hid (∀ W ps', Dk W B db mb ns1 ps' used → Calls Tryz.prog 26 #[.pointer (some ⟨db, 0, none⟩), .int .i64 (t.size : Int)] W fun e w' => e = .returned (.bool true) ∧ Dk w' B db mb ns1 ps' (used + t.size) ∧ Stay mb W w' ∧ Below B W w' ∧ w'.heap.size = W.heap.size) := Lib.hid fun W ps' hW => take_any hW t.size h0 hu
  have hd1 : decide ((32768 : Int) ≤ x.n) = false := decide_eq_false (by omega)
  have hwr : IntKind.i64.wrap (x.n + 1) = x.n + 1 := IntWalk.i64_in _ ⟨by omega, by omega⟩
  have HH := Lib.hid h
  have HB := Lib.hid hB
  have HX := Lib.hid hx
  have HX1 := Lib.hid hx1
  have HQ := Lib.hid hq
  have HL := Lib.hid hl
  have HNS := Lib.hid hns1
  clear h hlt h30 ht hB hn hp hx hx1 hq hl h0 hu hns1 hk
  by_cases hk2 : x.k = 2
  · have hxn := hxk hk2
    rw [hxn] at hwr
    have HK2 := Lib.hid hk2
    have HXN := Lib.hid hxn
    clear hxk hx0 hd1
    go_enter Tryz.func15, Tryz.ntmps15
    go_wp2_with fail
    refine (CF.out _ HH.out).mono ?_
    rintro e w1 ⟨rfl, hb1⟩
    have H1 := Lib.hid (HH.out.below hb1)
    have HB1 := Lib.hid hb1
    clear hb1
    have b0 : w1.cell? ⟨db, 0, none⟩ = some (.map (some mb)) := H1.out.box.cell 0
    have hr := H1.out.lookup HQ.out HL.out
    have c0 : w1.cell? ⟨q.b, 0, none⟩ = some (.int .i64 x.k) := (H1.out.node j x q HX.out HQ.out).box.cell 0
    have c2 : w1.cell? ⟨q.b, 2, none⟩ = some (.int .i64 x.n) := (H1.out.node j x q HX.out HQ.out).box.cell 2
    rw [ptrV]
    rw [HK2.out] at c0
    rw [HXN.out] at c2
    clear hk2 hxn
    go_wp2_with fail
    refine (CP.out _ H1.out (Nat.le_trans HB.out HB1.out.size)).mono ?_
    rintro e w2 ⟨rfl, ⟨ps', h2, hps⟩, hs2, hb2⟩
    obtain ⟨q', hq', hqb⟩ := hps j q HQ.out
    have H2 := Lib.hid h2
    have HQ' := Lib.hid hq'
    have HS2 := Lib.hid ((Stay.below HB1.out).trans hs2 : Stay mb w w2)
    have HB2 := Lib.hid ((HB1.out.mono HB.out).trans hb2 : Below B w w2)
    clear h2 hps hs2 hb2 hq' b0 hr c0 c2
    go_wp2_with fail
    refine (CT.out _ _ H2.out).mono ?_
    rintro e w3 ⟨rfl, h3, hs3, hb3, hz3⟩
    have k3 := h3.node j x q' HX1.out HQ'.out
    have c2' : w3.cell? ⟨q.b, 2, none⟩ = some (.int .i64 x.n) := by rw [← hqb]; exact k3.box.cell 2
    have c0' : w3.cell? ⟨q.b, 0, none⟩ = some (.int .i64 x.k) := by rw [← hqb]; exact k3.box.cell 0
    have c6' : w3.cell? ⟨q.b, 6, none⟩ = some (.int .i64 x.u) := by rw [← hqb]; exact k3.box.cell 6
    have z2' : w3.frozen? ⟨q.b, 2, none⟩ = false := by rw [← hqb]; exact k3.box.free 2
    have z6' : w3.frozen? ⟨q.b, 6, none⟩ = false := by rw [← hqb]; exact k3.box.free 6
    have H3 := Lib.hid h3
    have HS3 := Lib.hid (HS2.out.trans hs3)
    have HB3 := Lib.hid (HB2.out.trans hb3)
    clear k3 h3 hs3 hb3 hz3
    rw [HK2.out] at c0'
    rw [HXN.out] at c2'
    go_wp2_with fail
    go_ret
    obtain ⟨r1, r2, r3⟩ := enter_end2 (i := i) H3.out HX1.out HQ'.out hqb _ (by rw [HXN.out]) HK2.out
    exact ⟨rfl, r1, HS3.out.trans r2, HB3.out.trans r3⟩
  · have hkb : (x.k == 2) = false := by simpa using hk2
    have HK2 := Lib.hid hk2
    clear hxk hx0 hk2
    go_enter Tryz.func15, Tryz.ntmps15
    go_wp2_with fail
    refine (CF.out _ HH.out).mono ?_
    rintro e w1 ⟨rfl, hb1⟩
    have H1 := Lib.hid (HH.out.below hb1)
    have HB1 := Lib.hid hb1
    clear hb1
    have b0 : w1.cell? ⟨db, 0, none⟩ = some (.map (some mb)) := H1.out.box.cell 0
    have hr := H1.out.lookup HQ.out HL.out
    have c0 : w1.cell? ⟨q.b, 0, none⟩ = some (.int .i64 x.k) := (H1.out.node j x q HX.out HQ.out).box.cell 0
    have c2 : w1.cell? ⟨q.b, 2, none⟩ = some (.int .i64 x.n) := (H1.out.node j x q HX.out HQ.out).box.cell 2
    rw [ptrV]
    go_wp2_with fail
    refine (CP.out _ H1.out (Nat.le_trans HB.out HB1.out.size)).mono ?_
    rintro e w2 ⟨rfl, ⟨ps', h2, hps⟩, hs2, hb2⟩
    obtain ⟨q', hq', hqb⟩ := hps j q HQ.out
    have H2 := Lib.hid h2
    have HQ' := Lib.hid hq'
    have HS2 := Lib.hid ((Stay.below HB1.out).trans hs2 : Stay mb w w2)
    have HB2 := Lib.hid ((HB1.out.mono HB.out).trans hb2 : Below B w w2)
    clear h2 hps hs2 hb2 hq' b0 hr c0 c2
    go_wp2_with fail
    refine (CT.out _ _ H2.out).mono ?_
    rintro e w3 ⟨rfl, h3, hs3, hb3, hz3⟩
    have k3 := h3.node j x q' HX1.out HQ'.out
    have c2' : w3.cell? ⟨q.b, 2, none⟩ = some (.int .i64 x.n) := by rw [← hqb]; exact k3.box.cell 2
    have c0' : w3.cell? ⟨q.b, 0, none⟩ = some (.int .i64 x.k) := by rw [← hqb]; exact k3.box.cell 0
    have c6' : w3.cell? ⟨q.b, 6, none⟩ = some (.int .i64 x.u) := by rw [← hqb]; exact k3.box.cell 6
    have z2' : w3.frozen? ⟨q.b, 2, none⟩ = false := by rw [← hqb]; exact k3.box.free 2
    have z6' : w3.frozen? ⟨q.b, 6, none⟩ = false := by rw [← hqb]; exact k3.box.free 6
    have H3 := Lib.hid h3
    have HS3 := Lib.hid (HS2.out.trans hs3)
    have HB3 := Lib.hid (HB2.out.trans hb3)
    clear k3 h3 hs3 hb3 hz3
    go_wp2_with fail
    go_ret
    obtain ⟨r1, r2, r3⟩ := enter_end (i := i) H3.out HX1.out HQ'.out hqb _ rfl HK2.out
    exact ⟨rfl, r1, HS3.out.trans r2, HB3.out.trans r3⟩
end
end Go.Proofs.YtmlgmedapbeleaaGreatDoor
/-
  The walks of up, slashless, Tops, Bytes, both Contents.
-/
namespace Go.Proofs.YtmlgmedapbeleaaGreatDoor
open Go.RowKit

theorem eq47' {c : UInt8} (h : c = 47) : (((c.toNat : Nat) : Int) == 47) = true := eq47 h
theorem lastTo_le (l : List UInt8) (n : Nat) : lastTo l n < n := (lastTo_lt l n).2

theorem up_any (s : ByteArray) (w : World) (hs : s.size ≤ 100000) :
    Calls Tryz.prog 23 #[.string s] w fun e w' => e = .returned (.string (S (upL (L s)))) ∧ w' = w := by
  go_enter Tryz.func23, Tryz.ntmps23
  go_wp2_with fail
  go_loop [3] (fun i => ∃ n : Nat, n ≤ s.size ∧ i = .int .i64 ((n : Int) - 1) ∧ lastTo (L s) n = lastL (L s)) (fun i => (intOf i + 1).toNat)
  case atStart => exact ⟨s.size, Nat.le_refl _, rfl, rfl⟩
  case round =>
    obtain ⟨n, hn, rfl, hl⟩ := hrel
    have HLt := Lib.hid hl
    clear hl
    cases n with
    | zero =>
      have HR : Hid (S (upL (L s)) = ⟨#[]⟩) := Lib.hid (by rw [upL, ← HLt.out]; rfl)
      go_wp2_with fail
      go_ret
      exact ⟨by rw [HR.out]; rfl, rfl⟩
    | succ m =>
      have i0 := run_idx (P := Tryz.prog) (k := .i64) Tryz.underlying9 s (m : Int) m rfl (by omega)
      obtain ⟨c, hc⟩ : ∃ c, c = (L s).getD m 0 := ⟨_, rfl⟩
      rw [← hc] at i0
      have em : ((m + 1 : Nat) : Int) - 1 = (m : Int) := by omega
      rw [em]
      have HC := Lib.hid hc
      clear hc em
      by_cases h : c = 47
      · have e1 := eq47 h
        have hr : s.extract 0 m = S (upL (L s)) := by
          rw [S_extract_to, upL, ← HLt.out, lastTo_yes (by rw [← HC.out]; exact h), if_neg (by omega)]; rfl
        have HR := Lib.hid hr
        clear hr h
        go_wp2_with fail
        go_ret
        exact ⟨ret_string HR.out, rfl⟩
      · have e1 := ne47 h
        have hr : lastTo (L s) m = lastL (L s) := by rw [← HLt.out, lastTo_no (by rw [← HC.out]; exact h)]
        have HR := Lib.hid hr
        clear hr h
        go_wp2_with fail
        go_round
        case rel => exact ⟨m, by omega, by go_num, HR.out⟩
        case measure => simp [intOf]

/-- No slash. -/
def slB (l : List UInt8) : Bool := !hasB l 47
/-- All bytes. -/
def bytesL (l : List It) : Nat := (l.map fun x => x.d.size).sum
theorem bytes_take {l : List It} {k : Nat} {x : It} (h : l[k]? = some x) : bytesL (l.take (k + 1)) = bytesL (l.take k) + x.d.size := by
  obtain ⟨hk, rfl⟩ := List.getElem?_eq_some_iff.1 h
  rw [bytesL, bytesL, List.take_succ_eq_append_getElem hk, List.map_append, List.sum_append]; simp
theorem sum_take_le {α : Type} (f : α → Nat) (l : List α) (k : Nat) : ((l.take k).map f).sum ≤ (l.map f).sum := by
  have : (l.map f).sum = ((l.take k).map f).sum + ((l.drop k).map f).sum := by rw [← List.sum_append, ← List.map_append, List.take_append_drop]
  omega

end Go.Proofs.YtmlgmedapbeleaaGreatDoor
namespace Go.Proofs.YtmlgmedapbeleaaGreatDoor
open Go.RowKit

theorem findI_at2 {l : List It} {t : List UInt8} {j : Nat} {o : It} (h : findI l t = some j) (ho : l[j]? = some o) : findV l t = some o := by rw [findV_eq, h]; exact ho
theorem findV_no {l : List It} {t : List UInt8} (h : findI l t = none) : findV l t = none := by rw [findV_eq, h]; rfl
theorem findZ_some {l : List It} {t : List UInt8} {j : Nat} (h : findI l t = some j) : findZ l t = j := by rw [findZ, h]
theorem findZ_none {l : List It} {t : List UInt8} (h : findI l t = none) : findZ l t = -1 := by rw [findZ, h]

/-- What an item has. -/
def contS (l : List It) (x : It) : ByteArray := if L x.s = [] then x.d else match findV l (L x.s) with | some o => o.d | none => x.d

end Go.Proofs.YtmlgmedapbeleaaGreatDoor
