/-
  The table of the powers of ten, and the two errors, out of the listed variables.
-/
import Derived.Test.YtpgneaekflhgnaaDoorA5
import Derived.Lib.LaidTab
import Derived.MakeChecks
namespace Go.Proofs.YtpgneaekflhgnaaDoor
open Go.Shelf Go.RowKit Go.Lib

theorem iface_of_trodB {H : Type} {enc : TypeId × Value → H} {P : Program} {w : World} {base : Nat} {spare : Nat → Bool} {held : Bool} {fuel : Nat} {t : TypeId} {cs : List Value} {d : DataW H} {p : List MemPlace} {m : Array (String × TypeId)}
    (h : DataW.trod enc P w base spare held fuel t cs = some (d, p)) (ht : P.underlying t = some (.interface m)) : ∃ v, cs = [v] ∧ (v = .nilIface ∨ ∃ u x, v = .iface u x) := by
  cases fuel with
  | zero => simp [DataW.trod] at h
  | succ n =>
    match cs, h with
    | [], h => simp [DataW.trod, ht] at h
    | [v], h => cases v <;> first | exact ⟨_, rfl, .inl rfl⟩ | exact ⟨_, rfl, .inr ⟨_, _, rfl⟩⟩ | (exfalso; simp [DataW.trod, ht] at h; done)
    | _ :: _ :: _, h => simp [DataW.trod, ht] at h
theorem var_cellB {P : Program} {W : World} {n : String} {g : Nat} {cs : Array Value} {v : Value} (hg : P.globalNamed n = some g) (hv : W.var? P n = some cs) (hc : cs.toList = [v]) : W.cell? ⟨g, 0, none⟩ = some v := by
  unfold World.var? at hv
  rw [hg] at hv
  simp only [Option.bind_some] at hv
  split at hv
  · rename_i c a b hb
    cases hv
    have : cs[0]? = some v := by rw [← Array.getElem?_toList, hc]; rfl
    simp [World.cell?, hb, this]
  · cases hv
theorem tab_errB {W : World} (h : laidMetH Tryd.prog Rows.arithBindsRow.laid W) : Tab W ∧ ErrV W := by
  rw [MakeChecks.laidMetH_plain _ _ _ (by kernel_rfl)] at h
  obtain ⟨ps, ⟨g0, t0, cs0, f0, p0, q0, hg0, ht0, hv0, hd0, ⟨g1, t1, cs1, f1, p1, q1, hg1, ht1, hv1, hd1, ⟨g2, t2, cs2, f2, p2, q2, hg2, ht2, hv2, hd2, ⟨g3, t3, cs3, f3, p3, q3, hg3, ht3, hv3, hd3, ⟨g4, t4, cs4, f4, p4, q4, hg4, ht4, hv4, hd4, _, _⟩, _⟩, _⟩, _⟩, _⟩, _, _⟩ := h
  have hg : Tryd.prog.globalNamed "internal/strconv.uint64pow10" = some 2 := by kernel_rfl
  have hty : (Tryd.prog.globals[2]?).map (·.type) = some 106 := by kernel_rfl
  obtain rfl := Option.some.inj (hg.symm.trans hg2)
  obtain rfl := Option.some.inj (hty.symm.trans ht2)
  have hT : TabIs Tryd.prog W "internal/strconv.uint64pow10" .u64 pow10Tab := by
    unfold TabIs
    rw [hv2, ← cells_of_tab (k := .u64) (zs := pow10Tab) Tryd.underlying106 Tryd.underlying49 (by kernel_rfl) (by kernel_rfl) hd2]
  have hr : Tryd.prog.globalNamed "strconv.ErrRange" = some 1 := by kernel_rfl
  have hs : Tryd.prog.globalNamed "strconv.ErrSyntax" = some 0 := by kernel_rfl
  have htr : (Tryd.prog.globals[1]?).map (·.type) = some 66 := by kernel_rfl
  have hts : (Tryd.prog.globals[0]?).map (·.type) = some 66 := by kernel_rfl
  obtain rfl := Option.some.inj (hr.symm.trans hg3)
  obtain rfl := Option.some.inj (htr.symm.trans ht3)
  obtain rfl := Option.some.inj (hs.symm.trans hg4)
  obtain rfl := Option.some.inj (hts.symm.trans ht4)
  obtain ⟨v3, e3, k3⟩ := iface_of_trodB hd3 Tryd.underlying66
  obtain ⟨v4, e4, k4⟩ := iface_of_trodB hd4 Tryd.underlying66
  exact ⟨⟨hT, World.block_lt_of_cell? W _ (hT.cell hg 0 (by decide))⟩, ⟨v4, var_cellB hs hv4 e4, k4⟩, v3, var_cellB hr hv3 e3, k3⟩
end Go.Proofs.YtpgneaekflhgnaaDoor
