/-
  Scripts that came in: how they lie, out of what the form reads; what they weigh.
-/
import Derived.Test.YtnackmnoldkihaaGreatDoorW1
import Derived.ProofKit
import Derived.SizedLaws
import Derived.Test.YtnackmnoldkihaaGreatDoorW4
import Derived.Deep.Slices
import Derived.Deep.Fields
set_option linter.unusedVariables false
set_option linter.unusedSimpArgs false
/-
  The frame of a law's proof: what its arguments are when the call begins; that they read behind the call as they did.
-/
namespace Go.Proofs.YtnackmnoldkihaaGreatDoor
open Go.ChangeShapes Go.WideShapes Go.ChangeAt Go.RowKit

theorem Tryz.own : ownKnob Tryz.prog.godebug = none := by kernel_rfl
theorem Tryz.laidOut : laidOutB Tryz.prog = true := by kernel_rfl

/-- All arguments read behind the call as before, where nothing has turned that was there. -/
theorem below_trodAll {H : Type} {enc : TypeId × Value → H} {P : Program} (hl : laidOutB P = true) {W W' : World} (hb : Below W.heap.size W W') :
 ∀ (ts : List TypeId) (vs : List Value) (ds : List (DataW H)) (ps : List MemPlace), (∀ t ∈ ts, P.readableRec t = true) → (∀ t ∈ ts, t < P.types.size) → (∀ x ∈ ps, x.block < W.heap.size) →
   DataW.TrodAll enc P W 0 (fun _ => true) true ts vs ds ps → DataW.TrodAll enc P W' 0 (fun b => decide (b < W.heap.size)) true ts vs ds ps := by
 intro ts
 induction ts with
 | nil =>
   intro vs ds ps _ _ _ h
   obtain ⟨rfl, rfl, rfl⟩ := trodAll_nil h
   rfl
 | cons t ts ih =>
   intro vs ds ps h1 h2 h3 h
   obtain ⟨v, vs', d, ds', p, q, rfl, rfl, rfl, ht, hts⟩ := trodAll_cons h
   exact trodAll_cons_mk (Below.trod hl (h1 t (by simp)) (h2 t (by simp)) ht hb (fun x hx => h3 x (by simp [hx])))
    (ih vs' ds' q (fun t ht => h1 t (by simp [ht])) (fun t ht => h2 t (by simp [ht])) (fun x hx => h3 x (by simp [hx])) hts)

section
variable {H : Type} {enc : TypeId × Value → H} {P : Program} {W : World}

/-- A slice of strings that came in. -/
theorem open_strs {t e : TypeId} {v : Value} {d : DataW H} {p : List MemPlace} (ht : P.underlying t = some (.slice e)) (he : P.underlying e = some .string) (hc : P.cellsOf e = 1) {r : Reach} {base : Nat}
 (hok : Value.okWide P W r base t v) (h : DataW.Trod enc P W 0 (fun _ => true) true t v d p) (hlt : ∀ x ∈ p, x.block < W.heap.size) :
 ∃ a n cap ss, v = .slice a n cap ∧ Elems W W.heap.size a n ((ss : List ByteArray).map Value.string) ∧ ∀ s ∈ ss, s.size ≤ maxLen := by
 obtain ⟨a0, len, cap, rfl⟩ := okWide_slice ht hok
 obtain ⟨fuel, hf⟩ := h
 rcases open_strings ht he hc hf with ⟨hcs, hx⟩ | ⟨a, len', cap', ss, hcs, _, hl, hm, hz, hx, hcell, hws⟩
 · simp [Value.cells] at hcs
   obtain ⟨rfl, rfl, rfl⟩ := hcs
   exact ⟨none, 0, 0, [], rfl, ⟨rfl, Nat.zero_le _, .inl rfl⟩, by simp⟩
 · simp [Value.cells] at hcs
   obtain ⟨rfl, rfl, rfl⟩ := hcs
   simp only [Prod.mk.injEq] at hx
   obtain ⟨rfl, rfl⟩ := hx
   simp only [if_true] at hz
   refine ⟨some a, len, cap, ss.take len, rfl, ⟨by simp; omega, by omega, ?_⟩, fun s hs => hws s (List.mem_of_mem_take hs)⟩
   by_cases hl0 : len = 0
   · exact .inl hl0
   · obtain ⟨b, off, spot⟩ := a
     have hspot : spot = none := by simpa [Addr.add] using World.cell?_spot (hcell 0 (by omega))
     subst hspot
     refine .inr ⟨b, off, rfl, hlt (.cell b off) (MemPlace.mem_row.2 ⟨0, by omega, by simp⟩), fun i hi => ?_⟩
     rw [← addr_add, hcell i (by omega)]
     simp [hi, List.getD, List.getElem?_eq_getElem (show i < ss.length by omega)]

/-- The same; and no string is longer than the call's reach. -/
theorem open_strs_z {t e : TypeId} {v : Value} {d : DataW H} {p : List MemPlace} (ht : P.underlying t = some (.slice e)) (he : P.underlying e = some .string) (hc : P.cellsOf e = 1) {r : Reach} {base : Nat}
 (hok : Value.okWide P W r base t v) (h : DataW.Trod enc P W 0 (fun _ => true) true t v d p) (hlt : ∀ x ∈ p, x.block < W.heap.size) {Z : Nat} (hz : ∀ n ∈ d.weights P t, n ≤ Z) :
 ∃ a n cap ss, v = .slice a n cap ∧ Elems W W.heap.size a n ((ss : List ByteArray).map Value.string) ∧ ∀ s ∈ ss, s.size ≤ Z := by
 obtain ⟨a0, len, cap, rfl⟩ := okWide_slice ht hok
 obtain ⟨fuel, hf⟩ := h
 rcases open_strings ht he hc hf with ⟨hcs, hx⟩ | ⟨a, len', cap', ss, hcs, _, hl, hm, hz2, hx, hcell, hws⟩
 · simp [Value.cells] at hcs
   obtain ⟨rfl, rfl, rfl⟩ := hcs
   exact ⟨none, 0, 0, [], rfl, ⟨rfl, Nat.zero_le _, .inl rfl⟩, by simp⟩
 · simp [Value.cells] at hcs
   obtain ⟨rfl, rfl, rfl⟩ := hcs
   simp only [Prod.mk.injEq] at hx
   obtain ⟨rfl, rfl⟩ := hx
   simp only [if_true] at hz2
   refine ⟨some a, len, cap, ss.take len, rfl, ⟨by simp; omega, by omega, ?_⟩, fun s hs => ?_⟩
   · by_cases hl0 : len = 0
     · exact .inl hl0
     · obtain ⟨b, off, spot⟩ := a
       have hspot : spot = none := by simpa [Addr.add] using World.cell?_spot (hcell 0 (by omega))
       subst hspot
       refine .inr ⟨b, off, rfl, hlt (.cell b off) (MemPlace.mem_row.2 ⟨0, by omega, by simp⟩), fun i hi => ?_⟩
       rw [← addr_add, hcell i (by omega)]
       simp [hi, List.getD, List.getElem?_eq_getElem (show i < ss.length by omega)]
   · refine hz _ ?_
     have key : ∀ l : List ByteArray, s ∈ l → s.size ∈ DataW.weightsAll P e (strs l : List (DataW H)) := by
      intro l
      induction l with
      | nil => intro h; simp at h
      | cons x l ih =>
        intro h
        simp only [strs, List.map_cons, DataW.weightsAll, DataW.weights]
        rcases List.mem_cons.1 h with rfl | h
        · exact List.mem_append_left _ (by simp)
        · exact List.mem_append_right _ (ih h)
     simp only [DataW.weights, ht]
     exact List.mem_cons_of_mem _ (List.mem_append_left _ (key _ hs))
end

/-- A law's end: it has returned true, and nothing has turned that was there. -/
theorem law_post {H : Type} {enc : TypeId × Value → H} {fn : Func} {s : ChangeSpec} {W W' : World} {args : Array Value} {ds : List (DataW H)} {p : List MemPlace}
 (hv : s.vars = []) (hs : s.fn H (ds ++ []) = { results := [.lit (.bool true)], args := ds }) (hres : fn.resultTypes = #[4])
 (hr : fn.params.toList.all (fun t => Tryz.prog.readableRec t && decide (t < Tryz.prog.types.size)) = true)
 (hW : DataW.Whole enc Tryz.prog fn.params.toList s.vars false W args.toList ds [] p)
 (hA : DataW.TrodAll enc Tryz.prog W 0 (fun _ => true) true fn.params.toList args.toList ds p) (hb : Below W.heap.size W W') :
 s.post enc Tryz.prog fn false true false false W args (.bool true) W' := by
 have hlt : ∀ x ∈ p, x.block < W.heap.size := fun x hx => by simpa using hW.lt x hx
 refine ⟨_, _, _, [], p, [], hW, ?_, ?_, ?_, hb.frame _, fun h => by cases h⟩
 · rw [hs, hres]; exact trodAll_mk1 (shut_bool Tryz.underlying4 true)
 · rw [hs]; exact below_trodAll Tryz.laidOut hb _ _ _ _ (fun t ht => (by simpa using (List.all_eq_true.1 hr) t ht : _ ∧ _).1) (fun t ht => (by simpa using (List.all_eq_true.1 hr) t ht : _ ∧ _).2) hlt hA
 · rw [hs, hv]; rfl
end Go.Proofs.YtnackmnoldkihaaGreatDoor
/-
  A slice of structs that came in: its cells.
-/
namespace Go.Proofs.YtnackmnoldkihaaGreatDoor
open Go.ChangeShapes Go.WideShapes Go.ChangeAt Go.RowKit Go.Deep

section
variable {H : Type} {enc : TypeId × Value → H} {P : Program} {W : World}

/-- Each element's each field lies in a cell of its own and can be read. -/
theorem open_structs {t e : TypeId} {fs : Array Field} {v : Value} {d : DataW H} {p : List MemPlace} (ht : P.underlying t = some (.slice e)) (he : P.underlying e = some (.struct fs)) (hone : oneCellFields P fs = true) (hC : P.cellsOf e = fs.size) (hpos : 0 < fs.size)
 {r : Reach} {base : Nat} (hok : Value.okWide P W r base t v) (h : DataW.Trod enc P W 0 (fun _ => true) true t v d p) (hlt : ∀ x ∈ p, x.block < W.heap.size) :
 ∃ a n cap, v = .slice a n cap ∧ n ≤ cap ∧ cap ≤ maxLen ∧ (n = 0 ∨ ∃ b off, a = some ⟨b, off, none⟩ ∧ b < W.heap.size ∧ ∀ i, i < n → ∀ (j : Nat) (f : Field), fs[j]? = some f →
   ∃ (u : Value) (y : DataW H × List MemPlace) (k : Nat), W.cell? ⟨b, off + (i * fs.size + j), none⟩ = some u ∧ DataW.trod enc P W 0 (fun _ => true) true k f.type [u] = some y) := by
 obtain ⟨a0, len, cap, rfl⟩ := okWide_slice ht hok
 obtain ⟨fuel, hf⟩ := h
 rcases open_slice ht hf with ⟨hcs, _⟩ | ⟨a, len', cap', m, n, D, Pl, hcs, _, hl, hm, hmm, hx, hi⟩
 · simp [Value.cells] at hcs
   obtain ⟨rfl, rfl, rfl⟩ := hcs
   exact ⟨none, 0, 0, rfl, Nat.le_refl _, Nat.zero_le _, .inl rfl⟩
 · simp [Value.cells] at hcs
   obtain ⟨rfl, rfl, rfl⟩ := hcs
   simp only [Prod.mk.injEq] at hx
   obtain ⟨rfl, rfl⟩ := hx
   simp only [if_true] at hmm
   replace hmm := hmm.symm
   subst hmm
   rw [hC] at hi hlt
   refine ⟨some a, len, cap, rfl, hl, hm, ?_⟩
   by_cases hl0 : len = 0
   · exact .inl hl0
   right
   -- every cell of the row, by its element and its field
   have cell : ∀ i, i < cap → ∀ (j : Nat) (f : Field), fs[j]? = some f → ∃ (u : Value) (y : DataW H × List MemPlace) (k : Nat), W.cell? ((a.add (i * fs.size)).add j) = some u ∧ DataW.trod enc P W 0 (fun _ => true) true k f.type [u] = some y := by
    intro i hic j f hj
    obtain ⟨cs, hc, hst⟩ := hi i hic
    obtain ⟨ys, k, _, _, _, hyl, hg⟩ := DataW.trod_struct he hst
    obtain ⟨_, hcl, hat⟩ := World.cells?_some hc
    obtain ⟨ho, hk⟩ := hone_of hone j f hj
    have hjl : j < fs.size := (Array.getElem?_eq_some_iff.1 hj).1
    have hg' := hg j f hj
    rw [ho, hk, List.drop_eq_getElem_cons (by omega), List.take_succ_cons, List.take_zero, List.getElem?_eq_getElem (by omega)] at hg'
    exact ⟨_, _, _, (hat j hjl).trans (List.getElem?_eq_getElem (by omega)), hg'⟩
   obtain ⟨b, off, spot⟩ := a
   obtain ⟨f0, hf0⟩ : ∃ f0, fs[0]? = some f0 := ⟨_, Array.getElem?_eq_getElem hpos⟩
   obtain ⟨u0, _, _, hu0, _⟩ := cell 0 (by omega) 0 f0 hf0
   have hspot : spot = none := by simpa [Addr.add] using World.cell?_spot hu0
   subst hspot
   refine ⟨b, off, rfl, hlt (.cell b off) (List.mem_append_left _ (MemPlace.mem_row.2 ⟨0, Nat.mul_pos (by omega) hpos, by simp⟩)), fun i hil j f hj => ?_⟩
   obtain ⟨u, y, k, h1, h2⟩ := cell i (by omega) j f hj
   rw [addr_add, addr_add] at h1
   exact ⟨u, y, k, by rw [← Nat.add_assoc]; exact h1, h2⟩

/-- The same; and what is read weighs no more than the whole. -/
theorem open_structs_z {t e : TypeId} {fs : Array Field} {v : Value} {d : DataW H} {p : List MemPlace} (ht : P.underlying t = some (.slice e)) (he : P.underlying e = some (.struct fs)) (hone : oneCellFields P fs = true) (hC : P.cellsOf e = fs.size) (hpos : 0 < fs.size)
 {r : Reach} {base : Nat} (hok : Value.okWide P W r base t v) (h : DataW.Trod enc P W 0 (fun _ => true) true t v d p) (hlt : ∀ x ∈ p, x.block < W.heap.size) {Z : Nat} (hz : ∀ n ∈ d.weights P t, n ≤ Z) :
 ∃ a n cap, v = .slice a n cap ∧ n ≤ cap ∧ cap ≤ maxLen ∧ n * P.bytesOf e ≤ Z ∧ (n = 0 ∨ ∃ b off, a = some ⟨b, off, none⟩ ∧ b < W.heap.size ∧ ∀ i, i < n → ∀ (j : Nat) (f : Field), fs[j]? = some f →
   ∃ (u : Value) (y : DataW H × List MemPlace) (k : Nat), W.cell? ⟨b, off + (i * fs.size + j), none⟩ = some u ∧ DataW.trod enc P W 0 (fun _ => true) true k f.type [u] = some y ∧ ∀ n ∈ y.1.weights P f.type, n ≤ Z) := by
 obtain ⟨a0, len, cap, rfl⟩ := okWide_slice ht hok
 obtain ⟨fuel, hf⟩ := h
 rcases open_slice ht hf with ⟨hcs, _⟩ | ⟨a, len', cap', m, n, D, Pl, hcs, _, hl, hm, hmm, hx, hi⟩
 · simp [Value.cells] at hcs
   obtain ⟨rfl, rfl, rfl⟩ := hcs
   exact ⟨none, 0, 0, rfl, Nat.le_refl _, Nat.zero_le _, by rw [Nat.zero_mul]; exact Nat.zero_le _, .inl rfl⟩
 · simp [Value.cells] at hcs
   obtain ⟨rfl, rfl, rfl⟩ := hcs
   simp only [Prod.mk.injEq] at hx
   obtain ⟨rfl, rfl⟩ := hx
   simp only [if_true] at hmm
   replace hmm := hmm.symm
   subst hmm
   rw [hC] at hi hlt
   refine ⟨some a, len, cap, rfl, hl, hm, Nat.le_trans (Nat.mul_le_mul_right _ (Nat.le_add_right len _)) (hz _ (by simp only [DataW.weights, ht, List.length_map, List.length_range]; exact List.mem_cons_self ..)), ?_⟩
   by_cases hl0 : len = 0
   · exact .inl hl0
   right
   -- every cell of the row, by its element and its field
   have cell : ∀ i, i < len → ∀ (j : Nat) (f : Field), fs[j]? = some f → ∃ (u : Value) (y : DataW H × List MemPlace) (k : Nat), W.cell? ((a.add (i * fs.size)).add j) = some u ∧ DataW.trod enc P W 0 (fun _ => true) true k f.type [u] = some y ∧ ∀ n ∈ y.1.weights P f.type, n ≤ Z := by
    intro i hic j f hj
    obtain ⟨cs, hc, hst⟩ := hi i (by omega)
    obtain ⟨ys, k, _, hxe, _, hyl, hg⟩ := DataW.trod_struct he hst
    obtain ⟨_, hcl, hat⟩ := World.cells?_some hc
    obtain ⟨ho, hk⟩ := hone_of hone j f hj
    have hjl : j < fs.size := (Array.getElem?_eq_some_iff.1 hj).1
    have hg' := hg j f hj
    rw [ho, hk, List.drop_eq_getElem_cons (by omega), List.take_succ_cons, List.take_zero, List.getElem?_eq_getElem (by omega)] at hg'
    refine ⟨_, _, _, (hat j hjl).trans (List.getElem?_eq_getElem (by omega)), hg', fun n hn => hz n ?_⟩
    have hD : D i = .agg (ys.map (·.1)) := congrArg Prod.fst hxe
    have key : ∀ (l : List (DataW H)) (x : DataW H), x ∈ l → ∀ n ∈ x.weights P e, n ∈ DataW.weightsAll P e l := by
     intro l
     induction l with
     | nil => intro x h; simp at h
     | cons a l ih =>
       intro x h n hn
       simp only [DataW.weightsAll]
       rcases List.mem_cons.1 h with rfl | h
       · exact List.mem_append_left _ hn
       · exact List.mem_append_right _ (ih x h n hn)
    simp only [DataW.weights, ht]
    refine List.mem_cons_of_mem _ (List.mem_append_left _ (key _ (D i) (List.mem_map.2 ⟨i, List.mem_range.2 hic, rfl⟩) n ?_))
    rw [hD]
    simp only [DataW.weights, he]
    exact DataW.weights_mem_each (j := j) (by simp [hj]) (by rw [List.getElem?_map, List.getElem?_eq_getElem (show j < ys.length by omega)]; rfl) n hn
   obtain ⟨b, off, spot⟩ := a
   obtain ⟨f0, hf0⟩ : ∃ f0, fs[0]? = some f0 := ⟨_, Array.getElem?_eq_getElem hpos⟩
   obtain ⟨u0, _, _, hu0, _, _⟩ := cell 0 (by omega) 0 f0 hf0
   have hspot : spot = none := by simpa [Addr.add] using World.cell?_spot hu0
   subst hspot
   refine ⟨b, off, rfl, hlt (.cell b off) (List.mem_append_left _ (MemPlace.mem_row.2 ⟨0, Nat.mul_pos (by omega) hpos, by simp⟩)), fun i hil j f hj => ?_⟩
   obtain ⟨u, y, k, h1, h2, h3⟩ := cell i hil j f hj
   rw [addr_add, addr_add] at h1
   exact ⟨u, y, k, by rw [← Nat.add_assoc]; exact h1, h2, h3⟩
end

/-- So many things, one for each number. -/
theorem list_of {α : Type} {Q : Nat → α → Prop} : ∀ (n : Nat), (∀ i, i < n → ∃ x, Q i x) → ∃ l : List α, l.length = n ∧ ∀ i x, l[i]? = some x → Q i x
 | 0, _ => ⟨[], rfl, by simp⟩
 | n + 1, h => by
   obtain ⟨l, hl, hq⟩ := list_of n fun i hi => h i (by omega)
   obtain ⟨x, hx⟩ := h n (by omega)
   refine ⟨l ++ [x], by simp [hl], fun i y hy => ?_⟩
   rw [List.getElem?_append] at hy
   split at hy
   · exact hq i y hy
   · have hi : i = n := by
      rcases Nat.lt_or_ge (i - l.length) 1 with h1 | h1
      · omega
      · rw [List.getElem?_eq_none (by simpa using h1)] at hy; cases hy
     subst hi
     rw [hl, Nat.sub_self] at hy
     simp at hy
     subst hy
     exact hx

/-- A slice whose cells are its elements', one by one. -/
theorem sl_of {α : Type} {w : World} {B size n cap b off : Nat} (f : α → List Value) (hf : ∀ x, (f x).length = size) (hs : 0 < size) {l : List α} (hl : l.length = n) (hc : n ≤ cap) (hm : cap ≤ maxLen) (hb : b < B)
 (h : ∀ i x, l[i]? = some x → ∀ j, j < size → w.cell? ⟨b, off + (i * size + j), none⟩ = (f x)[j]?) : Sl w B size (.slice (some ⟨b, off, none⟩) n cap) n (l.flatMap f) := by
 refine ⟨by rw [flat_len f size hf, hl], _, _, rfl, hc, hm, .inr ⟨b, off, rfl, hb, fun j hj => ?_⟩⟩
 have h1 : j / size < l.length := by rw [hl]; exact Nat.div_lt_of_lt_mul (by rw [Nat.mul_comm]; exact hj)
 have h2 : j % size < size := Nat.mod_lt _ hs
 have h3 : j / size * size + j % size = j := by rw [Nat.mul_comm]; exact Nat.div_add_mod j size
 have hx : l[j / size]? = some l[j / size] := List.getElem?_eq_getElem h1
 have e1 := h _ _ hx _ h2
 have e2 := flat_get f size hf l _ _ hx _ h2
 rw [h3] at e1 e2
 rw [e1, e2]
end Go.Proofs.YtnackmnoldkihaaGreatDoor
namespace Go.Proofs.YtnackmnoldkihaaGreatDoor
open Go.ChangeShapes Go.WideShapes Go.ChangeAt Go.RowKit Go.Deep

/-! ### what a script weighs -/
def wtP (fw : List Pt → Nat) (fl : List Nd → Nat) (p : Pt) : Nat := 1 + p.text.size + p.op.size + fw p.word + fl p.body
def wtA (fw : List Pt → Nat) (a : As) : Nat := 1 + a.name.size + fw a.word
def wtR (fw : List Pt → Nat) (r : Rd) : Nat := 1 + r.op.size + r.tag.size + fw r.word
def wtY (fw : List Pt → Nat) (y : List Pt) : Nat := 1 + fw y
def wtS (fl : List Nd → Nat) (y : List Nd) : Nat := 1 + fl y
def wtM (fw : List Pt → Nat) (fl : List Nd → Nat) (a : Ar) : Nat := 1 + (a.words.map (wtY fw)).sum + fl a.body
def wtN (fw : List Pt → Nat) (fl : List Nd → Nat) (x : Nd) : Nat :=
 1 + x.name.size + (x.assigns.map (wtA fw)).sum + (x.words.map (wtY fw)).sum + (x.redirs.map (wtR fw)).sum + (x.lists.map (wtS fl)).sum + (x.arms.map (wtM fw fl)).sum
mutual
def wtW : Nat → List Pt → Nat
 | 0, _ => 0
 | n + 1, l => (l.map (wtP (wtW n) (wtL n))).sum
def wtL : Nat → List Nd → Nat
 | 0, _ => 0
 | n + 1, l => (l.map (wtN (wtW n) (wtL n))).sum
end

/-! ### bulk -/
theorem bulk_one {H : Type} (d : DataW H) : 1 ≤ Rows.uptoBulk d := by
 cases d with
 | lit l => cases l <;> simp [Rows.uptoBulk]
 | nil => simp [Rows.uptoBulk]
 | ptr d => simp [Rows.uptoBulk]
 | slice elems spare => simp [Rows.uptoBulk]
 | agg parts => simp [Rows.uptoBulk]
 | iface t d => simp [Rows.uptoBulk]
 | map entries => simp [Rows.uptoBulk]
 | held h => simp [Rows.uptoBulk]
theorem bulk_all {H : Type} (l : List (DataW H)) : Rows.uptoBulkAll l = (l.map Rows.uptoBulk).sum := by
 induction l with
 | nil => simp [Rows.uptoBulkAll]
 | cons x l ih => simp [Rows.uptoBulkAll, ih]
theorem sum_le_range {α : Type} (f : α → Nat) : ∀ (l : List α) (g : Nat → Nat), (∀ i x, l[i]? = some x → f x ≤ g i) → (l.map f).sum ≤ ((List.range l.length).map g).sum
 | [], _, _ => Nat.le_refl _
 | x :: l, g, h => by
   have e := sum_le_range f l (fun i => g (i + 1)) fun i x hx => h (i + 1) x (by simpa using hx)
   have h0 := h 0 x rfl
   rw [List.length_cons, List.range_succ_eq_map, List.map_cons, List.sum_cons, List.map_cons, List.sum_cons, List.map_map]
   exact Nat.add_le_add h0 e
theorem len_le_sum {α : Type} (f : α → Nat) (l : List α) (h : ∀ x ∈ l, 1 ≤ f x) : l.length ≤ (l.map f).sum := by
 induction l with
 | nil => exact Nat.le_refl _
 | cons x l ih =>
   have h0 := h x (by simp)
   have h1 := ih fun y hy => h y (by simp [hy])
   simp only [List.length_cons, List.map_cons, List.sum_cons]
   omega
theorem mem_le_sum {α : Type} (f : α → Nat) {l : List α} {x : α} (h : x ∈ l) : f x ≤ (l.map f).sum := by
 induction l with
 | nil => simp at h
 | cons y l ih =>
   rcases List.mem_cons.1 h with rfl | h
   · simp
   · have := ih h; simp only [List.map_cons, List.sum_cons]; omega

section
variable {H : Type} {enc : TypeId × Value → H} {W : World}

/-- The fields of a struct, one by one. -/
theorem struct_cells {P : Program} {t : TypeId} {fs : Array Field} {cs : List Value} {fuel : Nat} {x : DataW H × List MemPlace} (he : P.underlying t = some (.struct fs)) (hone : oneCellFields P fs = true) (h : DataW.trod enc P W 0 (fun _ => true) true fuel t cs = some x) (hlen : cs.length = fs.size) :
 ∃ (ys : List (DataW H × List MemPlace)) (k : Nat), x = (.agg (ys.map (·.1)), ys.flatMap (·.2)) ∧ ys.length = fs.size ∧ ∀ (j : Nat) (f : Field), fs[j]? = some f → ∃ u y, cs[j]? = some u ∧ ys[j]? = some y ∧ DataW.trod enc P W 0 (fun _ => true) true k f.type [u] = some y := by
 obtain ⟨ys, k, _, hx, _, hyl, hg⟩ := DataW.trod_struct he h
 refine ⟨ys, k, hx, hyl, fun j f hj => ?_⟩
 obtain ⟨ho, hk⟩ := hone_of hone j f hj
 have hjl : j < fs.size := (Array.getElem?_eq_some_iff.1 hj).1
 have hg' := hg j f hj
 rw [ho, hk, List.drop_eq_getElem_cons (by omega), List.take_succ_cons, List.take_zero] at hg'
 exact ⟨cs[j], ys[j], List.getElem?_eq_getElem (by omega), List.getElem?_eq_getElem (by omega), by rw [hg', List.getElem?_eq_getElem (by omega)]⟩

/-- A slice of things, each of which lies as F tells. -/
theorem slof_in {t e : TypeId} {size : Nat} (ht : Tryz.prog.underlying t = some (.slice e)) (hC : Tryz.prog.cellsOf e = size) (hs : 0 < size) {α : Type} (F : α → List Value → Prop) (wt : α → Nat) {fuel : Nat} {cs : List Value} {x : DataW H × List MemPlace} {N B : Nat}
 (h : DataW.trod enc Tryz.prog W 0 (fun _ => true) true fuel t cs = some x) (hlt : ∀ p ∈ x.2, p.block < B) (hN : Rows.uptoBulk x.1 ≤ N + 1) (hbig : N ≤ bigN)
 (elem : ∀ (fuel : Nat) (cs : List Value) (y : DataW H × List MemPlace), cs.length = size → DataW.trod enc Tryz.prog W 0 (fun _ => true) true fuel e cs = some y → (∀ p ∈ y.2, p.block < B) → Rows.uptoBulk y.1 ≤ N → ∃ a : α, F a cs ∧ wt a ≤ Rows.uptoBulk y.1) :
 ∃ (v : Value) (l : List α), cs = [v] ∧ SlOf W B size F l v ∧ (l.map wt).sum + 1 ≤ Rows.uptoBulk x.1 := by
 rcases open_slice ht h with ⟨rfl, rfl⟩ | ⟨a, len, cap, m, n, D, Pl, rfl, _, hl, hm, hmm, rfl, hi⟩
 · exact ⟨_, [], rfl, ⟨Nat.zero_le _, [], rfl, fun c hc => by simp at hc, Sl.nil W B size, fun i x c hx => by simp at hx⟩, by simp [Rows.uptoBulk]⟩
 · simp only [if_true] at hmm
   replace hmm := hmm.symm
   subst hmm
   rw [hC] at hi hlt
   simp only [Rows.uptoBulk, bulk_all, List.map_map] at hN ⊢
   have hmem : ∀ i, i < len → Rows.uptoBulk (D i) ≤ ((List.range len).map (Rows.uptoBulk ∘ D)).sum := fun i hil => mem_le_sum (Rows.uptoBulk ∘ D) (List.mem_range.2 hil)
   have hlen := len_le_sum (Rows.uptoBulk ∘ D) (List.range len) fun i _ => bulk_one _
   rw [List.length_range] at hlen
   obtain ⟨l, hll, hq⟩ := list_of (Q := fun i (z : α × List Value) => W.cells? 0 (a.add (i * size)) size = some z.2 ∧ F z.1 z.2 ∧ wt z.1 ≤ Rows.uptoBulk (D i) ∧ z.2.length = size) len fun i hil => by
    obtain ⟨cs, hc, hst⟩ := hi i (by omega)
    obtain ⟨_, hcl, hat⟩ := World.cells?_some hc
    have h2 : ∀ p ∈ Pl i, p.block < B := fun p hp => hlt p (List.mem_append_right _ (List.mem_flatMap.2 ⟨i, List.mem_range.2 (by omega), hp⟩))
    obtain ⟨y, hF, hw⟩ := elem _ cs _ hcl hst h2 (by have := hmem i hil; simp only; omega)
    exact ⟨(y, cs), hc, hF, hw, hcl⟩
   have hsum := sum_le_range (fun z : α × List Value => wt z.1) l (fun i => Rows.uptoBulk (D i)) fun i z hz => (hq i z hz).2.2.1
   rw [hll] at hsum
   refine ⟨_, l.map (·.1), rfl, ⟨by rw [List.length_map, hll]; omega, l.map (·.2), by simp, fun c hc => ?_, ?_, fun i x c hx hc => ?_⟩, ?_⟩
   · obtain ⟨z, hz, rfl⟩ := List.mem_map.1 hc
     obtain ⟨i, hi, he⟩ := List.mem_iff_getElem.1 hz
     exact (hq i z (by rw [List.getElem?_eq_getElem hi, he])).2.2.2
   · have hfl : (l.map (·.2)).flatten = l.flatMap (·.2) := by rw [List.flatMap_def]
     rw [List.length_map, hll, hfl]
     by_cases hl0 : len = 0
     · subst hl0
       obtain rfl : l = [] := List.length_eq_zero_iff.1 hll
       exact ⟨by simp, _, _, rfl, hl, hm, .inl rfl⟩
     · obtain ⟨b, off, spot⟩ := a
       have hl1 : ∀ (l' : List (α × List Value)), (∀ z ∈ l', z.2.length = size) → ∀ (k : Nat) (z : α × List Value), l'[k]? = some z → ∀ j, j < size → (l'.flatMap (·.2))[k * size + j]? = z.2[j]? := by
        intro l'
        induction l' with
        | nil => intro _ k z hz; simp at hz
        | cons y l' ih =>
          intro hs k z hz j hj
          have hy := hs y (by simp)
          cases k with
          | zero =>
            simp at hz; subst hz
            rw [List.flatMap_cons, Nat.zero_mul, Nat.zero_add, List.getElem?_append_left (by omega)]
          | succ k =>
            rw [List.flatMap_cons, List.getElem?_append_right (by rw [hy, Nat.succ_mul]; omega), hy, show (k + 1) * size + j - size = k * size + j by rw [Nat.succ_mul]; omega]
            exact ih (fun z hz => hs z (by simp [hz])) k z (by simpa using hz) j hj
       have hl2 : ∀ (l' : List (α × List Value)), (∀ z ∈ l', z.2.length = size) → (l'.flatMap (·.2)).length = l'.length * size := by
        intro l'
        induction l' with
        | nil => intro _; simp
        | cons y l' ih => intro hs; rw [List.flatMap_cons, List.length_append, hs y (by simp), ih (fun z hz => hs z (by simp [hz])), List.length_cons, Nat.succ_mul]; omega
       have hsz : ∀ z ∈ l, z.2.length = size := fun z hz => by
        obtain ⟨i, hi, he⟩ := List.mem_iff_getElem.1 hz
        exact (hq i z (by rw [List.getElem?_eq_getElem hi, he])).2.2.2
       have cell : ∀ i z, l[i]? = some z → ∀ j, j < size → W.cell? (((⟨b, off, spot⟩ : Addr).add (i * size)).add j) = z.2[j]? := fun i z hz j hj => by
        obtain ⟨hc, _, _, hcl⟩ := hq i z hz
        obtain ⟨_, _, hat⟩ := World.cells?_some hc
        exact hat j hj
       obtain ⟨z0, hz0⟩ : ∃ z, l[0]? = some z := ⟨_, List.getElem?_eq_getElem (by omega)⟩
       have hspot : spot = none := by
        have c0 := cell 0 z0 hz0 0 hs
        rw [List.getElem?_eq_getElem (by rw [(hq 0 z0 hz0).2.2.2]; exact hs)] at c0
        simpa [Addr.add] using World.cell?_spot c0
       subst hspot
       refine ⟨by rw [hl2 l hsz, hll], _, _, rfl, hl, hm, .inr ⟨b, off, rfl, hlt (.cell b off) (List.mem_append_left _ (MemPlace.mem_row.2 ⟨0, Nat.mul_pos (by omega) hs, by simp⟩)), fun j hj => ?_⟩⟩
       have h1 : j / size < l.length := by rw [hll]; exact Nat.div_lt_of_lt_mul (by rw [Nat.mul_comm]; exact hj)
       have h2 : j % size < size := Nat.mod_lt _ hs
       have h3 : j / size * size + j % size = j := by rw [Nat.mul_comm]; exact Nat.div_add_mod j size
       have hx : l[j / size]? = some l[j / size] := List.getElem?_eq_getElem h1
       have e1 := cell _ _ hx _ h2
       have e2 := hl1 l hsz _ _ hx _ h2
       rw [addr_add, addr_add, Nat.add_assoc, h3] at e1
       rw [h3] at e2
       rw [e1, e2]
   · rw [List.getElem?_map] at hx hc
     obtain ⟨z, hz, rfl⟩ := Option.map_eq_some_iff.1 hx
     rw [hz] at hc
     simp at hc
     subst hc
     exact (hq i z hz).2.1
   · rw [List.map_map]
     have hsum' : (l.map (wt ∘ fun z => z.1)).sum ≤ ((List.range len).map (Rows.uptoBulk ∘ D)).sum := hsum
     omega
end
end Go.Proofs.YtnackmnoldkihaaGreatDoor
