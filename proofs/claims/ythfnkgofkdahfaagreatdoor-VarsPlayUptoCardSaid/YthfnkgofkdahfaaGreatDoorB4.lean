/-
  The document's variables: where they lie; the walk of put.
-/
import Derived.Test.YthfnkgofkdahfaaGreatDoorB1
import Derived.Sort.Walk0
import Derived.Deep.QuietTactic
import Derived.BigQuiet
namespace Go.Proofs.YthfnkgofkdahfaaGreatDoor
open Go.RowKit

/-- A variable's cells, as the document keeps it. -/
def XC (p : Nm × Xd) : List Value := [.string ⟨p.1.toArray⟩, .string ⟨p.2.text.toArray⟩, .bool p.2.set, .bool p.2.exp, .bool p.2.fix]
theorem XC_len (p : Nm × Xd) : (XC p).length = 5 := rfl
theorem infoX : (Tryz.prog.info? 52).map (fun i => (i.zero, i.size, i.bytes)) = some (some (.agg #[.string ByteArray.empty, .string ByteArray.empty, .bool false, .bool false, .bool false]), 5, 40) := by kernel_rfl
theorem XC_one (l : List (Nm × Xd)) : ∀ u ∈ l.flatMap XC, u.oneCell' = true := by
  intro u hu
  obtain ⟨p, _, hp⟩ := List.mem_flatMap.1 hu
  simp only [XC, List.mem_cons, List.not_mem_nil, or_false] at hp
  rcases hp with rfl | rfl | rfl | rfl | rfl <;> rfl
/-- The document's variables in memory: the list in blocks from lo on, the parameters below B. -/
def LSt (w : World) (lo : Nat) (v : Value) (l : List (Nm × Xd)) : Prop := w.ownsRow lo 52 5 v l.length (l.flatMap XC)
/-- Strings that lie below B, their capacity told. -/
def EA (w : World) (B : Nat) (a : Option Addr) (c : Nat) (xs : List ByteArray) : Prop := Elems w B a xs.length (xs.map .string) ∧ xs.length ≤ c ∧ c ≤ maxLen
theorem EA.below {w w' : World} {B : Nat} {a : Option Addr} {c : Nat} {xs : List ByteArray} (h : EA w B a c xs) (hb : Below B w w') : EA w' B a c xs := ⟨h.1.below hb, h.2⟩
theorem EA.mono {w : World} {B B' : Nat} {a : Option Addr} {c : Nat} {xs : List ByteArray} (h : EA w B a c xs) (hb : B ≤ B') : EA w B' a c xs := ⟨h.1.mono hb, h.2⟩
theorem EA.but {w w' : World} {B g mb : Nat} {a : Option Addr} {c : Nat} {xs : List ByteArray} (h : EA w B a c xs) (hb : But g mb w w') (h1 : B ≤ g) (h2 : B ≤ mb) (hB : B ≤ w.heap.size) : EA w' B a c xs := ⟨h.1.but hb h1 h2 hB, h.2⟩
def RSt (w : World) (lo B : Nat) (V : Value) (l : List (Nm × Xd)) (xs : List ByteArray) (st : Int) : Prop :=
  ∃ vL a c, V = .agg #[vL, .string ⟨#[115, 104]⟩, .slice a xs.length c, .int .i64 st] ∧ LSt w lo vL l ∧ EA w B a c xs
section
variable {w w' : World} {lo B : Nat} {V : Value} {l : List (Nm × Xd)} {xs : List ByteArray} {st : Int}
theorem RSt.below (h : RSt w lo B V l xs st) (hb : Below w.heap.size w w') (hB : B ≤ w.heap.size) : RSt w' lo B V l xs st := by
  obtain ⟨vL, a, c, h1, h2, h3⟩ := h
  exact ⟨vL, a, c, h1, own_below h2 hb, h3.below (hb.mono hB)⟩
theorem RSt.but {g mb : Nat} (h : RSt w lo B V l xs st) (hb : But g mb w w') (h1 : g < lo) (h2 : mb < lo) (h3 : B ≤ g) (h4 : B ≤ mb) (hB : B ≤ w.heap.size) : RSt w' lo B V l xs st := by
  obtain ⟨vL, a, c, q1, q2, q3⟩ := h
  exact ⟨vL, a, c, q1, own_but q2 hb (own_ge q2 h1) (own_ge q2 h2), q3.but hb h3 h4 hB⟩
end
/-- One of them. -/
theorem x_at {w : World} {lo : Nat} {v : Value} {l : List (Nm × Xd)} (h : LSt w lo v l) {k : Nat} {p : Nm × Xd} (hk : l[k]? = some p) :
    ∃ b o, (∀ w', (Instr.indexAt 28 v (.int .i64 (k : Int))).run Tryz.prog w' = .ok (.pointer (some ⟨b, o, none⟩)) w') ∧ b < w.heap.size ∧ lo ≤ b ∧
      w.cell? ⟨b, o, none⟩ = some (.string ⟨p.1.toArray⟩) ∧ w.cell? ⟨b, o + 1, none⟩ = some (.string ⟨p.2.text.toArray⟩) ∧ w.cell? ⟨b, o + 2, none⟩ = some (.bool p.2.set) ∧ w.cell? ⟨b, o + 3, none⟩ = some (.bool p.2.exp) ∧ w.cell? ⟨b, o + 4, none⟩ = some (.bool p.2.fix) := by
  have hkl : k < l.length := (List.getElem?_eq_some_iff.1 hk).1
  obtain ⟨h1, h2⟩ := h
  rcases h2 with ⟨_, h3⟩ | ⟨g, cap, cur, rfl, hg, hb, hnc, hcm, hcs, hct⟩
  · rw [h3] at hkl; omega
  · have hglt : g < w.heap.size := (Array.getElem?_eq_some_iff.1 hb).1
    have hc : ∀ j x, j < 5 → (XC p)[j]? = some x → w.cell? ⟨g, 0 + k * 5 + j, none⟩ = some x := fun j x hj hx => by
      have e1 : (cur.toList.take (l.length * 5))[k * 5 + j]? = (l.flatMap XC)[k * 5 + j]? := by rw [hct]
      rw [List.getElem?_take, if_pos (by omega), flat_get XC 5 XC_len l k p hk j hj, hx] at e1
      simp only [World.cell?, hb, Nat.zero_add]
      rw [← Array.getElem?_toList]
      exact e1
    refine ⟨g, 0 + k * 5, fun w' => ?_, hglt, hg, hc 0 _ (by omega) rfl, hc 1 _ (by omega) rfl, hc 2 _ (by omega) rfl, hc 3 _ (by omega) rfl, hc 4 _ (by omega) rfl⟩
    have he : Tryz.prog.elem 28 = 52 := by simp [Program.elem, Tryz.underlying28]
    obtain ⟨i0, hi, hz0, hz1, hz2⟩ := info_parts infoX
    rw [run_indexAt_slice _ _ _ _ _ _ _ (by rw [he]; exact Tryz.underlying28), if_pos ⟨by omega, by omega⟩, he]
    simp [sizeOf, typeInfo, hi, hz1, Result.andThen, addr_add]
def loL (l : List (Nm × Xd)) (nm : Nm) : List (Nm × Xd) := l.filter fun p => decide (p.1 < nm)
def hiL (l : List (Nm × Xd)) (nm : Nm) : List (Nm × Xd) := l.filter fun p => decide (nm < p.1)
theorem lo_snoc {l : List (Nm × Xd)} {k : Nat} {p : Nm × Xd} (h : l[k]? = some p) (nm : Nm) : loL (l.take (k + 1)) nm = if decide (p.1 < nm) then loL (l.take k) nm ++ [p] else loL (l.take k) nm := by
  obtain ⟨hk, e⟩ := List.getElem?_eq_some_iff.1 h
  rw [loL, List.take_succ_eq_append_getElem hk, List.filter_append, e]
  cases hb : decide (p.1 < nm) <;> simp [hb, loL]
theorem hi_snoc {l : List (Nm × Xd)} {k : Nat} {p : Nm × Xd} (h : l[k]? = some p) (nm : Nm) : hiL (l.take (k + 1)) nm = if decide (nm < p.1) then hiL (l.take k) nm ++ [p] else hiL (l.take k) nm := by
  obtain ⟨hk, e⟩ := List.getElem?_eq_some_iff.1 h
  rw [hiL, List.take_succ_eq_append_getElem hk, List.filter_append, e]
  cases hb : decide (nm < p.1) <;> simp [hb, hiL]
theorem lo_le (l : List (Nm × Xd)) (nm : Nm) (k : Nat) : (loL (l.take k) nm).length ≤ k := Nat.le_trans (List.length_filter_le _ _) (by rw [List.length_take]; omega)
theorem hi_le (l : List (Nm × Xd)) (nm : Nm) (k : Nat) : (hiL (l.take k) nm).length ≤ k := Nat.le_trans (List.length_filter_le _ _) (by rw [List.length_take]; omega)
theorem less_lt (a b : Nm) : Op.bytesLess a b = decide (a < b) := bytesLess_eq a b
theorem less_gt (a b : Nm) : (!(Op.bytesLess a b || a == b)) = decide (b < a) := by
  rw [less_lt]
  rcases nm_tri a b with h | h | h
  · rw [decide_eq_true h, decide_eq_false fun k => nm_irrefl _ (nm_trans h k)]; rfl
  · subst h
    rw [decide_eq_false (nm_irrefl a)]
    simp
  · rw [decide_eq_true h, decide_eq_false fun k => nm_irrefl _ (nm_trans h k)]
    have : a ≠ b := fun e => by subst e; exact nm_irrefl _ h
    simp [this]

theorem Blk.put4 {w : World} {g : Nat} {t : TypeId} {a b c d : Value} (h : Blk w g t #[a, b, c, d]) (x0 x1 x2 x3 : Value) :
    Blk ((((w.setCell ⟨g, 0, none⟩ x0).setCell ⟨g, 1, none⟩ x1).setCell ⟨g, 2, none⟩ x2).setCell ⟨g, 3, none⟩ x3) g t #[x0, x1, x2, x3] := (((h.put 0 x0).put 1 x1).put 2 x2).put 3 x3
theorem Blk.put5 {w : World} {g : Nat} {t : TypeId} {a b c d e : Value} (h : Blk w g t #[a, b, c, d, e]) (x0 x1 x2 x3 x4 : Value) :
    Blk (((((w.setCell ⟨g, 0, none⟩ x0).setCell ⟨g, 1, none⟩ x1).setCell ⟨g, 2, none⟩ x2).setCell ⟨g, 3, none⟩ x3).setCell ⟨g, 4, none⟩ x4) g t #[x0, x1, x2, x3, x4] := ((((h.put 0 x0).put 1 x1).put 2 x2).put 3 x3).put 4 x4
theorem own_put4 {w : World} {lo : Nat} {v : Value} {l : List (Nm × Xd)} (h : LSt w lo v l) {g : Nat} (hg : g < lo) (x0 x1 x2 x3 : Value) :
    LSt ((((w.setCell ⟨g, 0, none⟩ x0).setCell ⟨g, 1, none⟩ x1).setCell ⟨g, 2, none⟩ x2).setCell ⟨g, 3, none⟩ x3) lo v l := own_far (own_far (own_far (own_far h (p := ⟨g, 0, none⟩) hg _) (p := ⟨g, 1, none⟩) hg _) (p := ⟨g, 2, none⟩) hg _) (p := ⟨g, 3, none⟩) hg _
theorem below_put4 {B : Nat} {a w : World} (h : Below B a w) {g : Nat} (hg : B ≤ g) (x0 x1 x2 x3 : Value) :
    Below B a ((((w.setCell ⟨g, 0, none⟩ x0).setCell ⟨g, 1, none⟩ x1).setCell ⟨g, 2, none⟩ x2).setCell ⟨g, 3, none⟩ x3) := (((h.setCell (p := ⟨g, 0, none⟩) hg _).setCell (p := ⟨g, 1, none⟩) hg _).setCell (p := ⟨g, 2, none⟩) hg _).setCell (p := ⟨g, 3, none⟩) hg _
theorem put_results {w : World} {b : Nat} {tmps : Array Value} {c0 c1 c2 c3 : Value} (h2 : tmps[4]?.getD undef = .pointer (some ⟨b, 0, none⟩)) (h : Blk w b 30 #[c0, c1, c2, c3]) :
    (results Tryz.f16 tmps).run Tryz.prog w = .ok (.agg #[c0, c1, c2, c3]) w := by
  have q0 := h.cell 0
  have q1 := h.cell 1
  have q2 := h.cell 2
  have q3 := h.cell 3
  simp at q0 q1 q2 q3
  simp [results, Tryz.results16, go_sem, h2, q0, q1, q2, q3]

set_option maxHeartbeats 2000000 in
set_option maxRecDepth 100000 in
theorem put_any (vL : Value) (l : List (Nm × Xd)) (a : Option Addr) (n c : Nat) (st : Int) (nm tx : Nm) (b1 b2 b3 : Bool) (w : World) (lo : Nat) (hL : LSt w lo vL l) (hlo : lo ≤ w.heap.size) (hl : l.length ≤ 1000) :
    Calls Tryz.prog 16 #[.agg #[vL, .string ⟨#[115, 104]⟩, .slice a n c, .int .i64 st], .agg #[.string ⟨nm.toArray⟩, .string ⟨tx.toArray⟩, .bool b1, .bool b2, .bool b3]] w fun e w' =>
      ∃ v', e = .returned (.agg #[v', .string ⟨#[115, 104]⟩, .slice a n c, .int .i64 st]) ∧ LSt w' w.heap.size v' (putL l nm ⟨tx, b1, b2, b3⟩) ∧ Below w.heap.size w w' := by
  obtain ⟨va, vc, rfl⟩ := own_shape hL
  obtain ⟨N, hN⟩ : ∃ N, N = l.length := ⟨_, rfl⟩
  have HN := Lib.hid hN
  have HL := Lib.hid hL
  rw [← hN] at hl
  rw [← hN]
  clear hN hL
  go_enter Tryz.func16, Tryz.ntmps16
  go_wp2_with fail
  obtain ⟨w3, hw3⟩ : ∃ W, W = ((w.alloc (.cells #[.slice va N vc, .string ⟨#[115, 104]⟩, .slice a n c, .int .i64 st] 30)).alloc (.cells #[.string ⟨nm.toArray⟩, .string ⟨tx.toArray⟩, .bool b1, .bool b2, .bool b3] 52)).alloc (.cells #[.slice none 0 0, .string ⟨#[]⟩, .slice none 0 0, .int .i64 0] 30) := ⟨_, rfl⟩
  have HS3 : Hid (w3.heap.size = w.heap.size + 3) := Lib.hid (by rw [hw3]; simp)
  have HB3 : Hid (Below w.heap.size w w3) := Lib.hid (by rw [hw3]; exact (((Below.refl _ _).alloc (Nat.le_refl _) _).alloc (by simp) _).alloc (by simp; omega) _)
  have X2 : Hid (Blk w3 w.heap.size 30 #[.slice va N vc, .string ⟨#[115, 104]⟩, .slice a n c, .int .i64 st]) := Lib.hid (by rw [hw3]; exact ((Blk.new w _ _).alloc _).alloc _)
  have X3 : Hid (Blk w3 (w.heap.size + 1) 52 #[.string ⟨nm.toArray⟩, .string ⟨tx.toArray⟩, .bool b1, .bool b2, .bool b3]) := Lib.hid (by rw [hw3]; have := (Blk.new (w.alloc (.cells #[.slice va N vc, .string ⟨#[115, 104]⟩, .slice a n c, .int .i64 st] 30)) 52 #[.string ⟨nm.toArray⟩, .string ⟨tx.toArray⟩, .bool b1, .bool b2, .bool b3]).alloc (.cells #[.slice none 0 0, .string ⟨#[]⟩, .slice none 0 0, .int .i64 0] 30); simpa using this)
  have X4 : Hid (Blk w3 (w.heap.size + 1 + 1) 30 #[.slice none 0 0, .string ⟨#[]⟩, .slice none 0 0, .int .i64 0]) := Lib.hid (by rw [hw3]; have := Blk.new ((w.alloc (.cells #[.slice va N vc, .string ⟨#[115, 104]⟩, .slice a n c, .int .i64 st] 30)).alloc (.cells #[.string ⟨nm.toArray⟩, .string ⟨tx.toArray⟩, .bool b1, .bool b2, .bool b3] 52)) 30 #[.slice none 0 0, .string ⟨#[]⟩, .slice none 0 0, .int .i64 0]; simpa using this)
  have HLW : Hid (∀ W, Below w3.heap.size w3 W → LSt W lo (.slice va N vc) l) := Lib.hid fun W hW => own_below (own_below (by rw [HN.out]; exact HL.out) HB3.out) hW
  rw [← hw3]
  clear hw3
  go_loopw [5, 6] (fun v5 i wr => ∃ k : Nat, k ≤ N ∧ i = .int .i64 k ∧ LSt wr (w.heap.size + 3) v5 (loL (l.take k) nm) ∧ Below w3.heap.size w3 wr) (fun _ i _ => N - (intOf i).toNat)
  case atStart => exact ⟨0, Nat.zero_le _, rfl, World.ownsRow_nil _ _ _ _, Below.refl _ _⟩
  case round =>
    obtain ⟨k, hk, rfl, hown, hb⟩ := hrel
    have hbs := hb.size
    have hs3 := HS3.out
    obtain ⟨oa, oc, rfl⟩ := own_shape hown
    have z2 := (X2.out.below hb X2.out.lt)
    have z3 := (X3.out.below hb X3.out.lt)
    have y20 := z2.cell 0
    have y30 := z3.cell 0
    have y31 := z3.cell 1
    have y32 := z3.cell 2
    have y33 := z3.cell 3
    have y34 := z3.cell 4
    simp at y20 y30 y31 y32 y33 y34
    have hll := lo_le l nm k
    by_cases hlt : k < N
    · obtain ⟨x, hx⟩ : ∃ x, l[k]? = some x := ⟨_, List.getElem?_eq_getElem (by rw [← HN.out]; omega)⟩
      obtain ⟨xn, xt, xs, xe, xf⟩ := x
      obtain ⟨bx, ox, i1, hb1, _, c0, c1, c2, c3, c4⟩ := x_at (HLW.out wr hb) hx
      have hsn := lo_snoc hx nm
      have e1 := less_lt xn nm
      simp only at c0 c1 c2 c3 c4 hsn
      obtain ⟨q, hq⟩ : ∃ q, decide (xn < nm) = q := ⟨_, rfl⟩
      rw [hq] at hsn e1
      obtain ⟨D, hD⟩ : ∃ D, D = loL (l.take k) nm := ⟨_, rfl⟩
      rw [← hD] at hown hsn hll ⊢
      obtain ⟨cc, hcc⟩ : ∃ c, c = D.length := ⟨_, rfl⟩
      rw [LSt, ← hcc] at hown
      rw [← hcc] at hll ⊢
      have HSN := Lib.hid hsn
      have HO := Lib.hid hown
      have HB := Lib.hid hb
      have HC := Lib.hid hcc
      clear hx hown hb hsn hD hcc hq z2 z3
      have hk24 : (cc + 1) * 40 ≤ 140737488355328 := by omega
      cases q
      · go_wp2_with fail
        go_quiet (fail)
        go_wp2_with fail
        go_roundw
        case rel => exact ⟨k + 1, by omega, by go_num, by rw [HSN.out, LSt]; simp only [Bool.false_eq_true, if_false]; rw [← HC.out]; exact own_below HO.out (below_drewN (Below.refl _ _) nq), below_drewN HB.out nq⟩
        case measure => simp [intOf]; omega
      · go_wp2_with fail
        go_quiet (fail)
        go_wp2_with (at_builtin; go_must ((refine append_sl2 rfl _ _ 28 rfl (w.heap.size + 3) 52 Tryz.underlying28 infoX rfl (by decide) (v := .slice oa cc oc) (n := cc) (xs := D.flatMap XC) rfl ((show (wr.drewN nq).ownsRow _ _ _ _ _ _ from HO.out).alloc _) (m := 1) (news := XC (xn, ⟨xt, xs, xe, xf⟩)) rfl (sl_made_at _ #[.string ⟨xn.toArray⟩, .string ⟨xt.toArray⟩, .bool xs, .bool xe, .bool xf] _ 1 5 rfl (by unfold maxLen; omega) (by simp)) (by omega) (XC_one [(xn, Xd.mk xt xs xe xf)]) hk24 (by unfold maxLen; omega) (by simp; omega) ?_); intro g1 cap1 w2 hown hgrow hlie hglt))
        have HB2 : Hid (Below w3.heap.size w3 w2) := Lib.hid (((below_drewN HB.out nq).alloc (by simpa using hbs) _).grown hgrow (by simp; omega) fun p hp => by have := (World.ownsRow.lt HO.out p hp).1; omega)
        have HO2 := Lib.hid hown
        clear hown hgrow hlie hglt
        go_roundw
        case rel =>
          refine ⟨k + 1, by omega, by go_num, ?_, HB2.out⟩
          rw [HSN.out]
          show World.ownsRow _ _ _ _ _ (D ++ [(xn, Xd.mk xt xs xe xf)]).length ((D ++ [(xn, Xd.mk xt xs xe xf)]).flatMap XC)
          rw [List.length_append, ← HC.out, List.flatMap_append]
          exact HO2.out
        case measure => simp [intOf]; omega
    · obtain rfl : k = N := by omega
      rw [List.take_of_length_le (show l.length ≤ k by rw [← HN.out]; exact Nat.le_refl _)] at hown hll ⊢
      obtain ⟨cc, hcc⟩ : ∃ c, c = (loL l nm).length := ⟨_, rfl⟩
      rw [LSt, ← hcc] at hown
      rw [← hcc] at hll ⊢
      have HO := Lib.hid hown
      have HC := Lib.hid hcc
      have HB := Lib.hid hb
      obtain ⟨wo, rfl⟩ : ∃ wo : World, wo = wr := ⟨_, rfl⟩
      clear hown hcc hb z2 z3
      have hk24 : (cc + 1) * 40 ≤ 140737488355328 := by omega
      go_wp2_with (at_builtin; go_must ((refine append_sl2 rfl _ _ 28 rfl (w.heap.size + 3) 52 Tryz.underlying28 infoX rfl (by decide) (v := .slice oa cc oc) (n := cc) (xs := (loL l nm).flatMap XC) rfl (World.ownsRow.alloc HO.out _) (m := 1) (news := XC (nm, ⟨tx, b1, b2, b3⟩)) rfl (sl_made_at _ #[.string ⟨nm.toArray⟩, .string ⟨tx.toArray⟩, .bool b1, .bool b2, .bool b3] _ 1 5 rfl (by unfold maxLen; omega) (by simp)) (by omega) (XC_one [(nm, Xd.mk tx b1 b2 b3)]) hk24 (by unfold maxLen; omega) (by simp; omega) ?_); intro g1 cap1 w5 hown hgrow hlie hglt))
      have HB5 : Hid (Below w3.heap.size w3 w5) := Lib.hid ((HB.out.alloc hbs _).grown hgrow (by simp; omega) fun p hp => by have := (World.ownsRow.lt HO.out p hp).1; omega)
      have HO5 : Hid (LSt w5 (w.heap.size + 3) (.slice (some ⟨g1, 0, none⟩) (cc + 1) cap1) (loL l nm ++ [(nm, Xd.mk tx b1 b2 b3)])) := Lib.hid (by
        show World.ownsRow _ _ _ _ _ (loL l nm ++ [(nm, Xd.mk tx b1 b2 b3)]).length _
        rw [List.length_append, ← HC.out, List.flatMap_append]
        exact hown)
      clear hown hgrow hlie hglt y20 y30 y31 y32 y33 y34 hbs
      go_loopw [5, 7] (fun v5 i wr => ∃ j : Nat, j ≤ k ∧ i = .int .i64 j ∧ LSt wr (w.heap.size + 3) v5 (loL l nm ++ (nm, Xd.mk tx b1 b2 b3) :: hiL (l.take j) nm) ∧ Below w3.heap.size w3 wr) (fun _ i _ => k - (intOf i).toNat)
      case atStart => exact ⟨0, Nat.zero_le _, rfl, HO5.out, HB5.out⟩
      case round =>
        obtain ⟨j, hj, rfl, hown, hb⟩ := hrel
        have hbs := hb.size
        have hs3 := HS3.out
        obtain ⟨oa, oc, rfl⟩ := own_shape hown
        have z2 := (X2.out.below hb X2.out.lt)
        have z3 := (X3.out.below hb X3.out.lt)
        have y20 := z2.cell 0
        have y30 := z3.cell 0
        have y31 := z3.cell 1
        have y32 := z3.cell 2
        have y33 := z3.cell 3
        have y34 := z3.cell 4
        simp at y20 y30 y31 y32 y33 y34
        have hll2 := hi_le l nm j
        by_cases hlt : j < k
        · obtain ⟨x, hx⟩ : ∃ x, l[j]? = some x := ⟨_, List.getElem?_eq_getElem (by rw [← HN.out]; omega)⟩
          obtain ⟨xn, xt, xs, xe, xf⟩ := x
          obtain ⟨bx, ox, i1, hb1, _, c0, c1, c2, c3, c4⟩ := x_at (HLW.out wr hb) hx
          have hsn := hi_snoc hx nm
          have e1 := less_gt xn nm
          simp only at c0 c1 c2 c3 c4 hsn
          obtain ⟨q, hq⟩ : ∃ q, decide (nm < xn) = q := ⟨_, rfl⟩
          rw [hq] at hsn e1
          obtain ⟨D, hD⟩ : ∃ D, D = loL l nm ++ (nm, Xd.mk tx b1 b2 b3) :: hiL (l.take j) nm := ⟨_, rfl⟩
          have hsn2 : loL l nm ++ (nm, Xd.mk tx b1 b2 b3) :: hiL (l.take (j + 1)) nm = if q then D ++ [(xn, Xd.mk xt xs xe xf)] else D := by
            rw [hsn, hD]
            cases q <;> simp
          have hDl : D.length ≤ k + 1 + j := by rw [hD, List.length_append, List.length_cons, ← HC.out]; omega
          clear hsn
          rw [← hD] at hown ⊢
          obtain ⟨cd, hcc⟩ : ∃ c, c = D.length := ⟨_, rfl⟩
          rw [LSt, ← hcc] at hown
          rw [← hcc] at hDl ⊢
          have HSN := Lib.hid hsn2
          have HO := Lib.hid hown
          have HB := Lib.hid hb
          have HC2 := Lib.hid hcc
          clear hx hown hb hsn2 hD hcc hq z2 z3
          have hk25 : (cd + 1) * 40 ≤ 140737488355328 := by omega
          cases q
          · go_wp2_with fail
            go_quiet (fail)
            go_wp2_with fail
            go_roundw
            case rel => exact ⟨j + 1, by omega, by go_num, by rw [HSN.out, LSt]; simp only [Bool.false_eq_true, if_false]; rw [← HC2.out]; exact own_below HO.out (below_drewN (Below.refl _ _) nq), below_drewN HB.out nq⟩
            case measure => simp [intOf]; omega
          · go_wp2_with fail
            go_quiet (fail)
            go_wp2_with (at_builtin; go_must ((refine append_sl2 rfl _ _ 28 rfl (w.heap.size + 3) 52 Tryz.underlying28 infoX rfl (by decide) (v := .slice oa cd oc) (n := cd) (xs := D.flatMap XC) rfl ((show (wr.drewN nq).ownsRow _ _ _ _ _ _ from HO.out).alloc _) (m := 1) (news := XC (xn, ⟨xt, xs, xe, xf⟩)) rfl (sl_made_at _ #[.string ⟨xn.toArray⟩, .string ⟨xt.toArray⟩, .bool xs, .bool xe, .bool xf] _ 1 5 rfl (by unfold maxLen; omega) (by simp)) (by omega) (XC_one [(xn, Xd.mk xt xs xe xf)]) hk25 (by unfold maxLen; omega) (by simp; omega) ?_); intro g1 cap1 w2 hown hgrow hlie hglt))
            have HB2 : Hid (Below w3.heap.size w3 w2) := Lib.hid (((below_drewN HB.out nq).alloc (by simpa using hbs) _).grown hgrow (by simp; omega) fun p hp => by have := (World.ownsRow.lt HO.out p hp).1; omega)
            have HO2 := Lib.hid hown
            clear hown hgrow hlie hglt
            go_roundw
            case rel =>
              refine ⟨j + 1, by omega, by go_num, ?_, HB2.out⟩
              rw [HSN.out]
              show World.ownsRow _ _ _ _ _ (D ++ [(xn, Xd.mk xt xs xe xf)]).length ((D ++ [(xn, Xd.mk xt xs xe xf)]).flatMap XC)
              rw [List.length_append, ← HC2.out, List.flatMap_append]
              exact HO2.out
            case measure => simp [intOf]; omega
        · obtain rfl : j = k := by omega
          rw [List.take_of_length_le (by rw [← HN.out]; exact Nat.le_refl _)] at hown
          rw [List.take_of_length_le (show l.length ≤ j by rw [← HN.out]; exact Nat.le_refl _)]
          obtain ⟨cd, hcd⟩ : ∃ c, c = (loL l nm ++ (nm, Xd.mk tx b1 b2 b3) :: hiL l nm).length := ⟨_, rfl⟩
          rw [← hcd] at hown ⊢
          have HO : Hid (LSt wr (w.heap.size + 3) (.slice oa cd oc) (putL l nm ⟨tx, b1, b2, b3⟩)) := Lib.hid hown
          have HB := Lib.hid hb
          have z4 := (X4.out.below hb X4.out.lt)
          have Z4 := Lib.hid z4
          have y21 := z2.cell 1
          have y22 := z2.cell 2
          have y23 := z2.cell 3
          have y40 := z4.cell 0
          have y41 := z4.cell 1
          have y42 := z4.cell 2
          have y43 := z4.cell 3
          have f20 := z2.free 0
          have f40 := z4.free 0
          have f41 := z4.free 1
          have f42 := z4.free 2
          have f43 := z4.free 3
          simp at y21 y22 y23 y40 y41 y42 y43
          clear hown hb z2 z3 z4 hcd
          go_wp2_with fail
          have hfin := (Z4.out.far (p := ⟨w.heap.size, 0, none⟩) (show w.heap.size + 1 + 1 ≠ w.heap.size by omega) (.slice oa cd oc)).put4 (.slice oa cd oc) (.string ⟨#[115, 104]⟩) (.slice a n c) (.int .i64 st)
          refine bodyPost_ret (put_results rfl hfin) rfl ⟨_, rfl, ?_, ?_⟩
          · exact own_from (own_put4 (own_far HO.out (p := ⟨w.heap.size, 0, none⟩) (show w.heap.size < w.heap.size + 3 by omega) _) (show w.heap.size + 1 + 1 < w.heap.size + 3 by omega) _ _ _ _) (by omega)
          · exact below_put4 ((HB3.out.trans (HB.out.mono (by omega))).setCell (p := ⟨w.heap.size, 0, none⟩) (Nat.le_refl _) _) (by omega) _ _ _ _
end Go.Proofs.YthfnkgofkdahfaaGreatDoor
