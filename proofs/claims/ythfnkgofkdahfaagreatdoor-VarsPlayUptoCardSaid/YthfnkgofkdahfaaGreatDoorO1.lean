/-
  An environment and calls that came in: how they lie, out of what the form reads; none is longer than the whole's bulk.
-/
import Derived.Test.YthfnkgofkdahfaaGreatDoorB13
import Derived.Test.YthfnkgofkdahfaaGreatDoorSlIn
namespace Go.Proofs.YthfnkgofkdahfaaGreatDoor
open Go.ChangeShapes Go.WideShapes Go.ChangeAt Go.RowKit Go.Deep

theorem bulk_all {H : Type} (l : List (DataW H)) : Rows.uptoBulkAll l = (l.map Rows.uptoBulk).sum := by
  induction l with
  | nil => simp [Rows.uptoBulkAll]
  | cons x l ih => simp [Rows.uptoBulkAll, ih]
theorem mem_le_sum {α : Type} (f : α → Nat) {l : List α} {x : α} (h : x ∈ l) : f x ≤ (l.map f).sum := by
  induction l with
  | nil => simp at h
  | cons y l ih =>
    rcases List.mem_cons.1 h with rfl | h
    · simp
    · have := ih h; simp only [List.map_cons, List.sum_cons]; omega
theorem bulk_mem {H : Type} {x : DataW H} {l : List (DataW H)} (h : x ∈ l) : Rows.uptoBulk x ≤ Rows.uptoBulkAll l := by
  rw [bulk_all]
  exact mem_le_sum Rows.uptoBulk h
section
variable {H : Type} {enc : TypeId × Value → H} {W : World}

/-- Strings, as the form reads them. -/
theorem strs_in {fuel : Nat} {cs : List Value} {x : DataW H × List MemPlace} (h : DataW.trod enc Tryz.prog W 0 (fun _ => true) true fuel 22 cs = some x) {B : Nat} (hlt : ∀ p ∈ x.2, p.block < B) :
    ∃ (a : Option Addr) (c : Nat) (ss : List ByteArray), cs = [.slice a ss.length c] ∧ EA W B a c ss ∧ ∀ s ∈ ss, s.size + 1 ≤ Rows.uptoBulk x.1 := by
  rcases open_strings Tryz.underlying22 Tryz.underlying9 (by kernel_rfl) h with ⟨rfl, _⟩ | ⟨a, len, cap, ss, rfl, _, hl, hm, hz, rfl, hcell, _⟩
  · exact ⟨none, 0, [], rfl, ⟨⟨rfl, Nat.zero_le _, .inl rfl⟩, Nat.le_refl _, Nat.zero_le _⟩, fun s hs => by cases hs⟩
  · simp only [if_true] at hz
    have htl : (ss.take len).length = len := by rw [List.length_take]; omega
    refine ⟨some a, cap, ss.take len, by rw [htl], ⟨⟨by rw [List.length_map], by rw [htl]; omega, ?_⟩, by rw [htl]; exact hl, hm⟩, fun s hs => ?_⟩
    · by_cases hl0 : len = 0
      · exact .inl (by rw [htl]; exact hl0)
      · obtain ⟨b, off, spot⟩ := a
        have hspot : spot = none := by simpa [Addr.add] using World.cell?_spot (hcell 0 (by omega))
        subst hspot
        refine .inr ⟨b, off, rfl, hlt (.cell b off) (MemPlace.mem_row.2 ⟨0, by omega, by simp⟩), fun i hi => ?_⟩
        rw [htl] at hi
        rw [← addr_add, hcell i (by omega)]
        simp [hi, List.getD, List.getElem?_eq_getElem (show i < ss.length by omega)]
    · simp only [Rows.uptoBulk]
      have h1 : (DataW.lit (H := H) (.string s.data.toList)) ∈ strs (ss.take len) := List.mem_map.2 ⟨s, hs, rfl⟩
      have h2 := bulk_mem h1
      simp only [Rows.uptoBulk] at h2
      have h3 : s.data.toList.length = s.size := rfl
      omega

/-- Each element's each field lies in a cell of its own and can be read; none is more than the whole. -/
theorem open_structs_k {P : Program} {t e : TypeId} {fs : Array Field} {v : Value} {d : DataW H} {p : List MemPlace} (ht : P.underlying t = some (.slice e)) (he : P.underlying e = some (.struct fs)) (hone : oneCellFields P fs = true) (hC : P.cellsOf e = fs.size) (hpos : 0 < fs.size)
    {r : Reach} {base : Nat} (hok : Value.okWide P W r base t v) (h : DataW.Trod enc P W 0 (fun _ => true) true t v d p) (hlt : ∀ x ∈ p, x.block < W.heap.size) :
    ∃ a n cap, v = .slice a n cap ∧ n ≤ cap ∧ cap ≤ maxLen ∧ (n = 0 ∨ ∃ b off, a = some ⟨b, off, none⟩ ∧ b < W.heap.size ∧ ∀ i, i < n → ∀ (j : Nat) (f : Field), fs[j]? = some f →
      ∃ (u : Value) (y : DataW H × List MemPlace) (k : Nat), W.cell? ⟨b, off + (i * fs.size + j), none⟩ = some u ∧ DataW.trod enc P W 0 (fun _ => true) true k f.type [u] = some y ∧ Rows.uptoBulk y.1 ≤ Rows.uptoBulk d ∧ ∀ q ∈ y.2, q.block < W.heap.size) := by
  obtain ⟨a0, len, cap, rfl⟩ := okWide_slice ht hok
  obtain ⟨fuel, hf⟩ := h
  rcases open_slice ht hf with ⟨hcs, _⟩ | ⟨a, len', cap', m, n, D, Pl, hcs, _, hl, hm, hmm, hx, hi⟩
  · simp [Value.cells] at hcs
    obtain ⟨rfl, rfl, rfl⟩ := hcs
    exact ⟨none, 0, 0, rfl, Nat.le_refl _, Nat.zero_le _, .inl rfl⟩
  · simp [Value.cells] at hcs
    obtain ⟨rfl, rfl, rfl⟩ := hcs
    simp only [Prod.mk.injEq] at hx
    obtain ⟨rfl, rfl⟩ := hx
    simp only [if_true] at hmm
    replace hmm := hmm.symm
    subst hmm
    rw [hC] at hi hlt
    refine ⟨some a, len, cap, rfl, hl, hm, ?_⟩
    by_cases hl0 : len = 0
    · exact .inl hl0
    right
    have cell : ∀ i, i < len → ∀ (j : Nat) (f : Field), fs[j]? = some f → ∃ (u : Value) (y : DataW H × List MemPlace) (k : Nat), W.cell? ((a.add (i * fs.size)).add j) = some u ∧ DataW.trod enc P W 0 (fun _ => true) true k f.type [u] = some y ∧ Rows.uptoBulk y.1 ≤ Rows.uptoBulkAll ((List.range len).map D) ∧ ∀ q ∈ y.2, q.block < W.heap.size := by
      intro i hic j f hj
      obtain ⟨cs, hc, hst⟩ := hi i (by omega)
      obtain ⟨ys, k, _, hxe, _, hyl, hg⟩ := DataW.trod_struct he hst
      obtain ⟨_, hcl, hat⟩ := World.cells?_some hc
      obtain ⟨ho, hk⟩ := hone_of hone j f hj
      have hjl : j < fs.size := (Array.getElem?_eq_some_iff.1 hj).1
      have hg' := hg j f hj
      rw [ho, hk, List.drop_eq_getElem_cons (by omega), List.take_succ_cons, List.take_zero, List.getElem?_eq_getElem (by omega)] at hg'
      have hD : D i = .agg (ys.map (·.1)) := congrArg Prod.fst hxe
      have hP : Pl i = ys.flatMap (·.2) := congrArg Prod.snd hxe
      refine ⟨_, _, _, (hat j hjl).trans (List.getElem?_eq_getElem (by omega)), hg', ?_, fun q hq => hlt q ?_⟩
      · have h1 : Rows.uptoBulk (D i) ≤ Rows.uptoBulkAll ((List.range len).map D) := bulk_mem (List.mem_map.2 ⟨i, List.mem_range.2 hic, rfl⟩)
        rw [hD] at h1
        simp only [Rows.uptoBulk] at h1
        have h2 : Rows.uptoBulk (ys[j]'(by omega)).1 ≤ Rows.uptoBulkAll (ys.map (·.1)) := bulk_mem (List.mem_map.2 ⟨ys[j]'(by omega), List.getElem_mem _, rfl⟩)
        omega
      · refine List.mem_append_right _ (List.mem_flatMap.2 ⟨i, List.mem_range.2 (by omega), ?_⟩)
        rw [hP]
        exact List.mem_flatMap.2 ⟨ys[j]'(by omega), List.getElem_mem _, hq⟩
    obtain ⟨b, off, spot⟩ := a
    obtain ⟨f0, hf0⟩ : ∃ f0, fs[0]? = some f0 := ⟨_, Array.getElem?_eq_getElem hpos⟩
    obtain ⟨u0, _, _, hu0, _, _⟩ := cell 0 (by omega) 0 f0 hf0
    have hspot : spot = none := by simpa [Addr.add] using World.cell?_spot hu0
    subst hspot
    refine ⟨b, off, rfl, hlt (.cell b off) (List.mem_append_left _ (MemPlace.mem_row.2 ⟨0, Nat.mul_pos (by omega) hpos, by simp⟩)), fun i hil j f hj => ?_⟩
    obtain ⟨u, y, k, h1, h2, h3, h4⟩ := cell i hil j f hj
    rw [addr_add, addr_add] at h1
    refine ⟨u, y, k, by rw [← Nat.add_assoc]; exact h1, h2, ?_, h4⟩
    simp only [Rows.uptoBulk]
    omega

set_option maxRecDepth 100000 in
theorem open_env {v : Value} {d : DataW H} {p : List MemPlace} {r : Reach} {base : Nat} (hok : Value.okWide Tryz.prog W r base 22 v) (h : DataW.Trod enc Tryz.prog W 0 (fun _ => true) true 22 v d p) (hlt : ∀ x ∈ p, x.block < W.heap.size) :
    ∃ (a : Option Addr) (c : Nat) (ss : List ByteArray), v = .slice a ss.length c ∧ EA W W.heap.size a c ss ∧ ∀ s ∈ ss, s.size ≤ Rows.uptoBulk d := by
  obtain ⟨a0, len, cap, rfl⟩ := okWide_slice Tryz.underlying22 hok
  obtain ⟨fuel, hf⟩ := h
  obtain ⟨a, c, ss, hcs, h1, h2⟩ := strs_in hf hlt
  simp [Value.cells] at hcs
  obtain ⟨rfl, rfl, rfl⟩ := hcs
  exact ⟨_, _, ss, rfl, h1, fun s hs => Nat.le_of_succ_le (h2 s hs)⟩

set_option maxRecDepth 100000 in
theorem open_ops {v : Value} {d : DataW H} {p : List MemPlace} {r : Reach} {base : Nat} (hok : Value.okWide Tryz.prog W r base 23 v) (h : DataW.Trod enc Tryz.prog W 0 (fun _ => true) true 23 v d p) (hlt : ∀ x ∈ p, x.block < W.heap.size) :
    ∃ (a : Option Addr) (c : Nat) (ops : List Opd), v = .slice a ops.length c ∧ OpsIn W W.heap.size a ops ∧ ∀ o ∈ ops, o.name.size ≤ Rows.uptoBulk d ∧ o.text.size ≤ Rows.uptoBulk d := by
  obtain ⟨a, n, cap, rfl, hc, hm, h0⟩ := open_structs_k Tryz.underlying23 Tryz.underlying34 (by kernel_rfl) (by kernel_rfl) (by decide) hok h hlt
  rcases h0 with rfl | ⟨b, off, rfl, hb, hcell⟩
  · exact ⟨a, cap, [], rfl, ⟨Nat.zero_le _, .inl rfl⟩, fun o ho => by cases ho⟩
  · obtain ⟨l, hl, hq⟩ := list_of (Q := fun i (o : Opd) => (∃ x c, (∀ (j : Nat) u, (OpC o x c)[j]? = some u → W.cell? ⟨b, off + (i * 5 + j), none⟩ = some u) ∧ EA W W.heap.size x c o.args) ∧ o.name.size ≤ Rows.uptoBulk d ∧ o.text.size ≤ Rows.uptoBulk d) n fun i hi => by
      obtain ⟨u0, y0, k0, hc0, ht0, _, _⟩ := hcell i hi 0 _ rfl
      obtain ⟨u1, y1, k1, hc1, ht1, hw1, _⟩ := hcell i hi 1 _ rfl
      obtain ⟨u2, y2, k2, hc2, ht2, hw2, _⟩ := hcell i hi 2 _ rfl
      obtain ⟨u3, y3, k3, hc3, ht3, _, _⟩ := hcell i hi 3 _ rfl
      obtain ⟨u4, y4, k4, hc4, ht4, _, hp4⟩ := hcell i hi 4 _ rfl
      obtain ⟨q0, hq0, _⟩ := DataW.trod_int Tryz.underlying3 ht0
      obtain ⟨s1, hs1, hy1, _⟩ := DataW.trod_string Tryz.underlying9 ht1
      obtain ⟨s2, hs2, hy2, _⟩ := DataW.trod_string Tryz.underlying9 ht2
      obtain ⟨q3, hq3, _⟩ := DataW.trod_int Tryz.underlying3 ht3
      obtain ⟨x4, c4, ss, hs4, hE4, _⟩ := strs_in ht4 hp4
      simp at hq0 hs1 hs2 hq3 hs4
      subst hq0 hs1 hs2 hq3 hs4 hy1 hy2
      refine ⟨⟨q0, s1, s2, q3, ss⟩, ⟨x4, c4, fun j u hu => ?_, hE4⟩, ?_, ?_⟩
      · match j, hu with
        | 0, hu => cases hu; exact hc0
        | 1, hu => cases hu; exact hc1
        | 2, hu => cases hu; exact hc2
        | 3, hu => cases hu; exact hc3
        | 4, hu => cases hu; exact hc4
      · simp only [Rows.uptoBulk] at hw1
        have h3 : s1.data.toList.length = s1.size := rfl
        show s1.size ≤ _
        omega
      · simp only [Rows.uptoBulk] at hw2
        have h3 : s2.data.toList.length = s2.size := rfl
        show s2.size ≤ _
        omega
    subst hl
    refine ⟨_, cap, l, rfl, ⟨by omega, .inr ⟨b, off, rfl, hb, fun i o ho => (hq i o ho).1⟩⟩, fun o ho => ?_⟩
    obtain ⟨i, hi, e⟩ := List.getElem_of_mem ho
    exact (hq i o (by rw [List.getElem?_eq_getElem hi, e])).2
end
end Go.Proofs.YthfnkgofkdahfaaGreatDoor
