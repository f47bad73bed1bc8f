/-
  The tables and the switch, out of the listed variables.
-/
import Derived.Test.YtnofoenkeoabpaaDoorH12
import Derived.Lib.LaidTab
import Derived.MakeChecks
import Derived.ChangeSame
namespace Go.Proofs.YtnofoenkeoabpaaDoor
open Go.Shelf Go.RowKit Go.Lib Go.ChangeShapes

/-- An array of pairs of numbers that reads as a table holds the table's numbers. -/
theorem cells_of_pairs {H : Type} {enc : TypeId × Value → H} {P : Program} {w : World} {base : Nat} {sp : Nat → Bool} {held : Bool} {fuel : Nat} {t e : TypeId} {n : Nat} {k : IntKind} {cs : List Value} {zs : List (Int × Int)} {p : List MemPlace} {f0 f1 : Field}
    (ht : P.underlying t = some (.array n e)) (he : P.underlying e = some (.struct #[f0, f1])) (h0 : P.underlying f0.type = some (.int k)) (h1 : P.underlying f1.type = some (.int k))
    (o0 : f0.offset = 0) (o1 : f1.offset = 1) (c0 : P.cellsOf f0.type = 1) (c1 : P.cellsOf f1.type = 1) (hce : P.cellsOf e = 2) (hct : P.cellsOf t = n * 2)
    (h : DataW.trod enc P w base sp held fuel t cs = some (.agg (zs.map fun z => .agg [.lit (.int k z.1), .lit (.int k z.2)]), p)) : ∀ i z, zs[i]? = some z → cs[i * 2]? = some (.int k z.1) ∧ cs[i * 2 + 1]? = some (.int k z.2) := by
  intro i z hz
  cases fuel with
  | zero => simp [DataW.trod] at h
  | succ fuel =>
    simp only [DataW.trod, ht, hce, hct] at h
    split at h
    · rename_i hl
      obtain ⟨xs, hm, hx⟩ := Option.map_eq_some_iff.1 h
      have hxs : xs.map (·.1) = zs.map fun z => (DataW.agg [.lit (.int k z.1), .lit (.int k z.2)] : DataW H) := by
        have := congrArg Prod.fst hx
        simpa using this
      have hxl : xs.length = n := by simpa using mapM_length hm
      have hzl : zs.length = n := by
        have := congrArg List.length hxs
        simp at this
        omega
      have hi : i < n := by
        have := (List.getElem?_eq_some_iff.1 hz).1
        omega
      obtain ⟨b, hb, hf⟩ := mapM_at hm i i (by simp [hi])
      obtain ⟨y0, y1, m, hb2, hl2, g0, g1⟩ := trod_struct2 he hf
      obtain ⟨z0, e0, rfl, _⟩ := DataW.trod_int h0 g0
      obtain ⟨z1, e1, rfl, _⟩ := DataW.trod_int h1 g1
      subst hb2
      have h2 : (xs.map (·.1))[i]? = some (DataW.agg [.lit (.int k z0), .lit (.int k z1)] : DataW H) := by simp [hb]
      rw [hxs] at h2
      simp only [List.getElem?_map, hz, Option.map_some, Option.some.injEq, DataW.agg.injEq, List.cons.injEq, DataW.lit.injEq, Lit.int.injEq, true_and, and_true] at h2
      obtain ⟨rfl, rfl⟩ := h2
      rw [o0, c0] at e0
      rw [o1, c1] at e1
      constructor
      · have := congrArg (·[0]?) e0
        simpa [List.getElem?_take, List.getElem?_drop] using this
      · have := congrArg (·[0]?) e1
        simpa [List.getElem?_take, List.getElem?_drop] using this
    · cases h
theorem bool_of_trod {H : Type} {enc : TypeId × Value → H} {P : Program} {w : World} {base : Nat} {spare : Nat → Bool} {held : Bool} {fuel : Nat} {t : TypeId} {cs : List Value} {b : Bool} {p : List MemPlace}
    (h : DataW.trod enc P w base spare held fuel t cs = some (.lit (.bool b), p)) (ht : P.underlying t = some .bool) : cs = [.bool b] := by
  cases fuel with
  | zero => simp [DataW.trod] at h
  | succ n =>
    unfold DataW.trod at h
    rw [ht] at h
    split at h <;> simp_all
theorem var_cells {P : Program} {W : World} {n : String} {g : Nat} {cs : Array Value} {i : Nat} {v : Value} (hg : P.globalNamed n = some g) (hv : W.var? P n = some cs) (hc : cs.toList[i]? = some v) : W.cell? ⟨g, i, none⟩ = some v := by
  unfold World.var? at hv
  rw [hg] at hv
  simp only [Option.bind_some] at hv
  split at hv
  · rename_i c a b hb
    cases hv
    have : cs[i]? = some v := by rw [← Array.getElem?_toList, hc]
    simp [World.cell?, hb, this]
  · cases hv
def pmRows : List (Int × Int) := Go.Pinned.pow10Rows.map fun x => ((x.1 : Int), (x.2 : Int))
theorem pm_data : Go.Pinned.pow10Tab = .agg (pmRows.map fun z => .agg [.lit (.int .u64 z.1), .lit (.int .u64 z.2)]) := by
  rw [pmRows, List.map_map]; rfl
theorem pm_351 : pmRows[351]? = some (18014398509481984000, 0) := by kernel_rfl
theorem pm_352 : pmRows[352]? = some (11258999068426240000, 0) := by kernel_rfl
theorem gl_of {W : World} (h : laidMetH Tryd.prog Rows.gainShowsRow.laid W) : Gl W.heap.size W := by
  rw [MakeChecks.laidMetH_plain _ _ _ (by kernel_rfl)] at h
  obtain ⟨ps, ⟨g0, t0, cs0, f0, p0, q0, hg0, ht0, hv0, hd0, ⟨g1, t1, cs1, f1, p1, q1, hg1, ht1, hv1, hd1, ⟨g2, t2, cs2, f2, p2, q2, hg2, ht2, hv2, hd2, ⟨g3, t3, cs3, f3, p3, q3, hg3, ht3, hv3, hd3, ⟨g4, t4, cs4, f4, p4, q4, hg4, ht4, hv4, hd4, ⟨g5, t5, cs5, f5, p5, q5, hg5, ht5, hv5, hd5, _, _⟩, _⟩, _⟩, _⟩, _⟩, _⟩, _, _⟩ := h
  have hgo : Tryd.prog.globalNamed "internal/strconv.optimize" = some 1 := by kernel_rfl
  have hto : (Tryd.prog.globals[1]?).map (·.type) = some 4 := by kernel_rfl
  obtain rfl := Option.some.inj (hgo.symm.trans hg2)
  obtain rfl := Option.some.inj (hto.symm.trans ht2)
  have e2 := bool_of_trod hd2 Tryd.underlying4
  have co : W.cell? ⟨1, 0, none⟩ = some (.bool true) := var_cells hgo hv2 (by rw [e2]; rfl)
  have hg : Tryd.prog.globalNamed "internal/strconv.uint64pow10" = some 2 := by kernel_rfl
  have hty : (Tryd.prog.globals[2]?).map (·.type) = some 88 := by kernel_rfl
  obtain rfl := Option.some.inj (hg.symm.trans hg3)
  obtain rfl := Option.some.inj (hty.symm.trans ht3)
  have hT : TabIs Tryd.prog W "internal/strconv.uint64pow10" .u64 pow10Tab := by
    unfold TabIs
    rw [hv3, ← cells_of_tab (k := .u64) (zs := pow10Tab) Tryd.underlying88 Tryd.underlying35 (by kernel_rfl) (by kernel_rfl) hd3]
  have hgp : Tryd.prog.globalNamed "internal/strconv.pow10Tab" = some 3 := by kernel_rfl
  have htp : (Tryd.prog.globals[3]?).map (·.type) = some 98 := by kernel_rfl
  obtain rfl := Option.some.inj (hgp.symm.trans hg5)
  obtain rfl := Option.some.inj (htp.symm.trans ht5)
  have hd5' := hd5
  rw [show Rows.laid_internal_strconv_pow10Tab = Go.Pinned.pow10Tab from rfl, pm_data] at hd5'
  have hP := cells_of_pairs (k := .u64) (zs := pmRows) Tryd.underlying98 Tryd.underlying97 Tryd.underlying35 Tryd.underlying35 rfl rfl (by kernel_rfl) (by kernel_rfl) (by kernel_rfl) (by kernel_rfl) hd5'
  obtain ⟨x1, x2⟩ := hP 351 _ pm_351
  obtain ⟨x3, x4⟩ := hP 352 _ pm_352
  have y1 : W.cell? ⟨3, 702, none⟩ = some (.int .u64 18014398509481984000) := var_cells hgp hv5 x1
  have y2 : W.cell? ⟨3, 703, none⟩ = some (.int .u64 0) := var_cells hgp hv5 x2
  have y3 : W.cell? ⟨3, 704, none⟩ = some (.int .u64 11258999068426240000) := var_cells hgp hv5 x3
  have y4 : W.cell? ⟨3, 705, none⟩ = some (.int .u64 0) := var_cells hgp hv5 x4
  have b1 := World.block_lt_of_cell? W _ (hT.cell hg 0 (by decide))
  have b2 := World.block_lt_of_cell? W _ y1
  have b3 := World.block_lt_of_cell? W _ co
  exact ⟨⟨hT, b1⟩, ⟨⟨y1, y2, y3, y4⟩, b2⟩, ⟨co, b3⟩, b1, b2, b3⟩
end Go.Proofs.YtnofoenkeoabpaaDoor
