/-
  A slice of structs that came in: its cells.
-/
import Derived.Test.YtpgneaekflhgnaaDoorSl
import Derived.Test.YtpgneaekflhgnaaDoorOpen
import Derived.Deep.Slices
import Derived.Deep.Fields
namespace Go.Proofs.YtpgneaekflhgnaaDoor
open Go.ChangeShapes Go.WideShapes Go.ChangeAt Go.RowKit Go.Deep

section
variable {H : Type} {enc : TypeId × Value → H} {P : Program} {W : World}

/-- Each element's each field lies in a cell of its own and can be read. -/
theorem open_structs {t e : TypeId} {fs : Array Field} {v : Value} {d : DataW H} {p : List MemPlace} (ht : P.underlying t = some (.slice e)) (he : P.underlying e = some (.struct fs)) (hone : oneCellFields P fs = true) (hC : P.cellsOf e = fs.size) (hpos : 0 < fs.size)
    {r : Reach} {base : Nat} (hok : Value.okWide P W r base t v) (h : DataW.Trod enc P W 0 (fun _ => true) true t v d p) (hlt : ∀ x ∈ p, x.block < W.heap.size) :
    ∃ a n cap, v = .slice a n cap ∧ n ≤ cap ∧ cap ≤ maxLen ∧ (n = 0 ∨ ∃ b off, a = some ⟨b, off, none⟩ ∧ b < W.heap.size ∧ ∀ i, i < n → ∀ (j : Nat) (f : Field), fs[j]? = some f →
      ∃ (u : Value) (y : DataW H × List MemPlace) (k : Nat), W.cell? ⟨b, off + (i * fs.size + j), none⟩ = some u ∧ DataW.trod enc P W 0 (fun _ => true) true k f.type [u] = some y) := by
  obtain ⟨a0, len, cap, rfl⟩ := okWide_slice ht hok
  obtain ⟨fuel, hf⟩ := h
  rcases open_slice ht hf with ⟨hcs, _⟩ | ⟨a, len', cap', m, n, D, Pl, hcs, _, hl, hm, hmm, hx, hi⟩
  · simp [Value.cells] at hcs
    obtain ⟨rfl, rfl, rfl⟩ := hcs
    exact ⟨none, 0, 0, rfl, Nat.le_refl _, Nat.zero_le _, .inl rfl⟩
  · simp [Value.cells] at hcs
    obtain ⟨rfl, rfl, rfl⟩ := hcs
    simp only [Prod.mk.injEq] at hx
    obtain ⟨rfl, rfl⟩ := hx
    simp only [if_true] at hmm
    replace hmm := hmm.symm
    subst hmm
    rw [hC] at hi hlt
    refine ⟨some a, len, cap, rfl, hl, hm, ?_⟩
    by_cases hl0 : len = 0
    · exact .inl hl0
    right
    -- every cell of the row, by its element and its field
    have cell : ∀ i, i < cap → ∀ (j : Nat) (f : Field), fs[j]? = some f → ∃ (u : Value) (y : DataW H × List MemPlace) (k : Nat), W.cell? ((a.add (i * fs.size)).add j) = some u ∧ DataW.trod enc P W 0 (fun _ => true) true k f.type [u] = some y := by
      intro i hic j f hj
      obtain ⟨cs, hc, hst⟩ := hi i hic
      obtain ⟨ys, k, _, _, _, hyl, hg⟩ := DataW.trod_struct he hst
      obtain ⟨_, hcl, hat⟩ := World.cells?_some hc
      obtain ⟨ho, hk⟩ := hone_of hone j f hj
      have hjl : j < fs.size := (Array.getElem?_eq_some_iff.1 hj).1
      have hg' := hg j f hj
      rw [ho, hk, List.drop_eq_getElem_cons (by omega), List.take_succ_cons, List.take_zero, List.getElem?_eq_getElem (by omega)] at hg'
      exact ⟨_, _, _, (hat j hjl).trans (List.getElem?_eq_getElem (by omega)), hg'⟩
    obtain ⟨b, off, spot⟩ := a
    obtain ⟨f0, hf0⟩ : ∃ f0, fs[0]? = some f0 := ⟨_, Array.getElem?_eq_getElem hpos⟩
    obtain ⟨u0, _, _, hu0, _⟩ := cell 0 (by omega) 0 f0 hf0
    have hspot : spot = none := by simpa [Addr.add] using World.cell?_spot hu0
    subst hspot
    refine ⟨b, off, rfl, hlt (.cell b off) (List.mem_append_left _ (MemPlace.mem_row.2 ⟨0, Nat.mul_pos (by omega) hpos, by simp⟩)), fun i hil j f hj => ?_⟩
    obtain ⟨u, y, k, h1, h2⟩ := cell i (by omega) j f hj
    rw [addr_add, addr_add] at h1
    exact ⟨u, y, k, by rw [← Nat.add_assoc]; exact h1, h2⟩

/-- The same; and what is read weighs no more than the whole. -/
theorem open_structs_z {t e : TypeId} {fs : Array Field} {v : Value} {d : DataW H} {p : List MemPlace} (ht : P.underlying t = some (.slice e)) (he : P.underlying e = some (.struct fs)) (hone : oneCellFields P fs = true) (hC : P.cellsOf e = fs.size) (hpos : 0 < fs.size)
    {r : Reach} {base : Nat} (hok : Value.okWide P W r base t v) (h : DataW.Trod enc P W 0 (fun _ => true) true t v d p) (hlt : ∀ x ∈ p, x.block < W.heap.size) {Z : Nat} (hz : ∀ n ∈ d.weights P t, n ≤ Z) :
    ∃ a n cap, v = .slice a n cap ∧ n ≤ cap ∧ cap ≤ maxLen ∧ n * P.bytesOf e ≤ Z ∧ (n = 0 ∨ ∃ b off, a = some ⟨b, off, none⟩ ∧ b < W.heap.size ∧ ∀ i, i < n → ∀ (j : Nat) (f : Field), fs[j]? = some f →
      ∃ (u : Value) (y : DataW H × List MemPlace) (k : Nat), W.cell? ⟨b, off + (i * fs.size + j), none⟩ = some u ∧ DataW.trod enc P W 0 (fun _ => true) true k f.type [u] = some y ∧ ∀ n ∈ y.1.weights P f.type, n ≤ Z) := by
  obtain ⟨a0, len, cap, rfl⟩ := okWide_slice ht hok
  obtain ⟨fuel, hf⟩ := h
  rcases open_slice ht hf with ⟨hcs, _⟩ | ⟨a, len', cap', m, n, D, Pl, hcs, _, hl, hm, hmm, hx, hi⟩
  · simp [Value.cells] at hcs
    obtain ⟨rfl, rfl, rfl⟩ := hcs
    exact ⟨none, 0, 0, rfl, Nat.le_refl _, Nat.zero_le _, by rw [Nat.zero_mul]; exact Nat.zero_le _, .inl rfl⟩
  · simp [Value.cells] at hcs
    obtain ⟨rfl, rfl, rfl⟩ := hcs
    simp only [Prod.mk.injEq] at hx
    obtain ⟨rfl, rfl⟩ := hx
    simp only [if_true] at hmm
    replace hmm := hmm.symm
    subst hmm
    rw [hC] at hi hlt
    refine ⟨some a, len, cap, rfl, hl, hm, Nat.le_trans (Nat.mul_le_mul_right _ (Nat.le_add_right len _)) (hz _ (by simp only [DataW.weights, ht, List.length_map, List.length_range]; exact List.mem_cons_self ..)), ?_⟩
    by_cases hl0 : len = 0
    · exact .inl hl0
    right
    -- every cell of the row, by its element and its field
    have cell : ∀ i, i < len → ∀ (j : Nat) (f : Field), fs[j]? = some f → ∃ (u : Value) (y : DataW H × List MemPlace) (k : Nat), W.cell? ((a.add (i * fs.size)).add j) = some u ∧ DataW.trod enc P W 0 (fun _ => true) true k f.type [u] = some y ∧ ∀ n ∈ y.1.weights P f.type, n ≤ Z := by
      intro i hic j f hj
      obtain ⟨cs, hc, hst⟩ := hi i (by omega)
      obtain ⟨ys, k, _, hxe, _, hyl, hg⟩ := DataW.trod_struct he hst
      obtain ⟨_, hcl, hat⟩ := World.cells?_some hc
      obtain ⟨ho, hk⟩ := hone_of hone j f hj
      have hjl : j < fs.size := (Array.getElem?_eq_some_iff.1 hj).1
      have hg' := hg j f hj
      rw [ho, hk, List.drop_eq_getElem_cons (by omega), List.take_succ_cons, List.take_zero, List.getElem?_eq_getElem (by omega)] at hg'
      refine ⟨_, _, _, (hat j hjl).trans (List.getElem?_eq_getElem (by omega)), hg', fun n hn => hz n ?_⟩
      have hD : D i = .agg (ys.map (·.1)) := congrArg Prod.fst hxe
      have key : ∀ (l : List (DataW H)) (x : DataW H), x ∈ l → ∀ n ∈ x.weights P e, n ∈ DataW.weightsAll P e l := by
        intro l
        induction l with
        | nil => intro x h; simp at h
        | cons a l ih =>
          intro x h n hn
          simp only [DataW.weightsAll]
          rcases List.mem_cons.1 h with rfl | h
          · exact List.mem_append_left _ hn
          · exact List.mem_append_right _ (ih x h n hn)
      simp only [DataW.weights, ht]
      refine List.mem_cons_of_mem _ (List.mem_append_left _ (key _ (D i) (List.mem_map.2 ⟨i, List.mem_range.2 hic, rfl⟩) n ?_))
      rw [hD]
      simp only [DataW.weights, he]
      exact DataW.weights_mem_each (j := j) (by simp [hj]) (by rw [List.getElem?_map, List.getElem?_eq_getElem (show j < ys.length by omega)]; rfl) n hn
    obtain ⟨b, off, spot⟩ := a
    obtain ⟨f0, hf0⟩ : ∃ f0, fs[0]? = some f0 := ⟨_, Array.getElem?_eq_getElem hpos⟩
    obtain ⟨u0, _, _, hu0, _, _⟩ := cell 0 (by omega) 0 f0 hf0
    have hspot : spot = none := by simpa [Addr.add] using World.cell?_spot hu0
    subst hspot
    refine ⟨b, off, rfl, hlt (.cell b off) (List.mem_append_left _ (MemPlace.mem_row.2 ⟨0, Nat.mul_pos (by omega) hpos, by simp⟩)), fun i hil j f hj => ?_⟩
    obtain ⟨u, y, k, h1, h2, h3⟩ := cell i hil j f hj
    rw [addr_add, addr_add] at h1
    exact ⟨u, y, k, by rw [← Nat.add_assoc]; exact h1, h2, h3⟩
end

/-- So many things, one for each number. -/
theorem list_of {α : Type} {Q : Nat → α → Prop} : ∀ (n : Nat), (∀ i, i < n → ∃ x, Q i x) → ∃ l : List α, l.length = n ∧ ∀ i x, l[i]? = some x → Q i x
  | 0, _ => ⟨[], rfl, by simp⟩
  | n + 1, h => by
    obtain ⟨l, hl, hq⟩ := list_of n fun i hi => h i (by omega)
    obtain ⟨x, hx⟩ := h n (by omega)
    refine ⟨l ++ [x], by simp [hl], fun i y hy => ?_⟩
    rw [List.getElem?_append] at hy
    split at hy
    · exact hq i y hy
    · have hi : i = n := by
        rcases Nat.lt_or_ge (i - l.length) 1 with h1 | h1
        · omega
        · rw [List.getElem?_eq_none (by simpa using h1)] at hy; cases hy
      subst hi
      rw [hl, Nat.sub_self] at hy
      simp at hy
      subst hy
      exact hx

/-- A slice whose cells are its elements', one by one. -/
theorem sl_of {α : Type} {w : World} {B size n cap b off : Nat} (f : α → List Value) (hf : ∀ x, (f x).length = size) (hs : 0 < size) {l : List α} (hl : l.length = n) (hc : n ≤ cap) (hm : cap ≤ maxLen) (hb : b < B)
    (h : ∀ i x, l[i]? = some x → ∀ j, j < size → w.cell? ⟨b, off + (i * size + j), none⟩ = (f x)[j]?) : Sl w B size (.slice (some ⟨b, off, none⟩) n cap) n (l.flatMap f) := by
  refine ⟨by rw [flat_len f size hf, hl], _, _, rfl, hc, hm, .inr ⟨b, off, rfl, hb, fun j hj => ?_⟩⟩
  have h1 : j / size < l.length := by rw [hl]; exact Nat.div_lt_of_lt_mul (by rw [Nat.mul_comm]; exact hj)
  have h2 : j % size < size := Nat.mod_lt _ hs
  have h3 : j / size * size + j % size = j := by rw [Nat.mul_comm]; exact Nat.div_add_mod j size
  have hx : l[j / size]? = some l[j / size] := List.getElem?_eq_getElem h1
  have e1 := h _ _ hx _ h2
  have e2 := flat_get f size hf l _ _ hx _ h2
  rw [h3] at e1 e2
  rw [e1, e2]
end Go.Proofs.YtpgneaekflhgnaaDoor
