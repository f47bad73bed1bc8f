/-
  The splitter in memory; pieces that came in.
-/
import Derived.Test.YtlehofcgkmhgaaaF1
import Derived.Test.YtlehofcgkmhgaaaSl
import Derived.Test.YtlehofcgkmhgaaaStr
import Derived.Laws.OwnMore
namespace Go.Proofs.Ytlehofcgkmhgaaa
open Go.RowKit

def pcC (p : Pc) : List Value := [.string p.t, .bool p.q]
def inC (p : In) : List Value := [.string p.t, .bool p.q, .bool p.s, .bool p.b]
theorem pcC_len (p : Pc) : (pcC p).length = 2 := rfl
theorem inC_len (p : In) : (inC p).length = 4 := rfl
theorem infoPc : (Try.prog.info? 45).map (fun i => (i.zero, i.size, i.bytes)) = some (some (.agg #[.string ⟨#[]⟩, .bool false]), 2, 24) := by kernel_rfl
theorem infoFd : (Try.prog.info? 30).map (fun i => (i.zero, i.size, i.bytes)) = some (some (.slice none 0 0), 1, 24) := by kernel_rfl

theorem own_ne_new {w : World} {base : Nat} {e : TypeId} {size : Nat} {v : Value} {n : Nat} {xs : List Value} (h : w.ownsRow base e size v n xs) {g : Nat} (hg : w.heap.size ≤ g) : v.ownBlock ≠ some g := fun e => by
  have := (World.ownsRow.lt h g e).2
  omega
/-- Rows of elements of two kinds lie in two blocks. -/
theorem own_kinds {w : World} {b1 b2 e1 e2 s1 s2 n1 n2 : Nat} {v1 v2 : Value} {x1 x2 : List Value} (h1 : w.ownsRow b1 e1 s1 v1 n1 x1) (h2 : w.ownsRow b2 e2 s2 v2 n2 x2) (hne : e1 ≠ e2) : v1.ownBlock = none ∨ v1.ownBlock ≠ v2.ownBlock := by
  rcases h1.2 with ⟨rfl, _⟩ | ⟨g, c, cur, rfl, _, hg, _⟩
  · exact .inl rfl
  · right
    rcases h2.2 with ⟨rfl, _⟩ | ⟨g2, c2, cur2, rfl, _, hg2, _⟩
    · simp [Value.ownBlock]
    · intro e
      simp [Value.ownBlock] at e
      subst e
      rw [hg] at hg2
      simp at hg2
      exact hne hg2.2
/-- An element of a row of the call's own: where it lies. -/
theorem own_at {P : Program} {w : World} {base e size n : Nat} {v : Value} {xs : List Value} (h : w.ownsRow base e size v n xs) (T : Nat) (hT : P.underlying T = some (.slice e)) (hs : (P.info? e).map (·.size) = some size) {k : Nat} (hk : k < n) (i : Int) (hi : i = k) :
    ∃ g cap, v = .slice (some ⟨g, 0, none⟩) n cap ∧ base ≤ g ∧ g < w.heap.size ∧ (∀ w' : World, (Instr.indexAt T v (.int .i64 i)).run P w' = .ok (.pointer (some ⟨g, k * size, none⟩)) w') ∧ ∀ j, j < n * size → w.cell? ⟨g, j, none⟩ = xs[j]? ∧ w.frozen? ⟨g, j, none⟩ = false := by
  subst hi
  have hsl := Sl.of_own h
  rcases h.2 with ⟨rfl, h0⟩ | ⟨g, cap, cur, rfl, hb, hg, r⟩
  · omega
  · obtain ⟨a, cap', b, off, hv, _, _, h1, h2, h3⟩ := hsl.open (P := P) T e hT hs
    cases hv
    refine ⟨g, cap, rfl, hb, (Array.getElem?_eq_some_iff.1 hg).1, fun w' => ?_, fun j hj => ⟨World.ownsRow.cellAt h j hj, World.ownsRow.frozenAt h j⟩⟩
    have he : P.elem T = e := by simp [Program.elem, hT]
    obtain ⟨i, hi, hi1⟩ := Option.map_eq_some_iff.1 hs
    rw [run_indexAt_slice _ _ _ _ _ _ _ (by rw [he]; exact hT), if_pos ⟨by omega, by omega⟩, he]
    simp [sizeOf, typeInfo, hi, hi1, Result.andThen, addr_add]

/-- A new block, then a row has grown: what stays. -/
theorem grown_stays {w W w2 : World} {g : Nat} {o : Obj} {row : Option Nat} (h : Below g w W) (hg : g < W.heap.size) (hgrow : (W.alloc o).grownBy w2 row) (hlo : ∀ k, row = some k → g + 1 ≤ k) :
    Below g w w2 ∧ (∀ i, w2.cell? ⟨g, i, none⟩ = W.cell? ⟨g, i, none⟩) ∧ ∀ i, w2.frozen? ⟨g, i, none⟩ = W.frozen? ⟨g, i, none⟩ := by
  have e : w2.heap[g]? = W.heap[g]? := (hgrow.block g (by simp; omega) (fun e => by have := hlo _ e.symm; omega)).trans (Below.heap_alloc W o g hg)
  exact ⟨(h.alloc (by omega) o).grown hgrow (by simp; omega) (fun k hk => by have := hlo k hk; omega), fun i => World.cell?_of_block e, fun i => World.frozen?_of_block e⟩

abbrev Fv := List Pc × Value
def FieldsAt (w : World) (B : Nat) (fv : List Fv) : Prop := ∀ x ∈ fv, w.ownsRow B 45 2 x.2 x.1.length (x.1.flatMap pcC)
def Free (v : Value) (fv : List Fv) : Prop := ∀ x ∈ fv, ∀ k, x.2.ownBlock = some k → v.ownBlock ≠ some k
def spC (wh ot : ByteArray) (vo vn : Value) (op due : Bool) : Array Value := #[.string wh, .string ot, vo, vn, .bool op, .bool due]
structure Sp (w : World) (g : Nat) (wh ot : ByteArray) (vo vn : Value) (fv : List Fv) (now : List Pc) (op due : Bool) : Prop where
  blk : Blk w g 51 (spC wh ot vo vn op due)
  out : w.ownsRow (g + 1) 30 1 vo fv.length (fv.map (·.2))
  own : w.ownsRow (g + 1) 45 2 vn now.length (now.flatMap pcC)
  fields : FieldsAt w (g + 1) fv
  free : Free vn fv

section
variable {w w' : World} {g : Nat} {wh ot : ByteArray} {vo vn : Value} {fv : List Fv} {now : List Pc} {op due : Bool}
theorem Sp.below (h : Sp w g wh ot vo vn fv now op due) (hb : Below w.heap.size w w') : Sp w' g wh ot vo vn fv now op due :=
  ⟨h.blk.below hb h.blk.lt, own_below h.out hb, own_below h.own hb, fun x hx => own_below (h.fields x hx) hb, h.free⟩
theorem Sp.set {i : Nat} {u : Value} {vo' vn' : Value} {op' due' : Bool} (h : Sp w g wh ot vo vn fv now op due) (he : (spC wh ot vo vn op due).setIfInBounds i u = spC wh ot vo' vn' op' due') (hv : vo' = vo) (hn : vn' = vn) : Sp (w.setCell ⟨g, i, none⟩ u) g wh ot vo' vn' fv now op' due' := by
  subst hv hn
  have hb := h.blk.put i u
  rw [he] at hb
  exact ⟨hb, own_far h.out (by simp) _, own_far h.own (by simp) _, fun x hx => own_far (h.fields x hx) (by simp) _, h.free⟩
/-- The pieces' row has grown or turned; it is written back. -/
theorem Sp.turn {w1 : World} {vn' : Value} {now' : List Pc} (h : Sp w g wh ot vo vn fv now op due) (hown : w1.ownsRow (g + 1) 45 2 vn' now'.length (now'.flatMap pcC)) (hg : w.grownBy w1 vn.ownBlock) (hv : vn'.ownBlock = vn.ownBlock ∨ vn'.ownBlock = some w.heap.size) :
    Sp (w1.setCell ⟨g, 3, none⟩ vn') g wh ot vo vn' fv now' op due := by
  have hb := (h.blk.grown hg (own_ne h.own (by omega))).put 3 vn'
  refine ⟨hb, own_far (World.ownsRow.kept h.out hg (own_kinds h.out h.own (by decide))) (by simp) _, own_far hown (by simp) _, fun x hx => own_far (World.ownsRow.kept (h.fields x hx) hg ?_) (by simp) _, fun x hx k hk => ?_⟩
  · cases hk : x.2.ownBlock with
    | none => exact .inl rfl
    | some k => exact .inr (fun e => h.free x hx k hk e.symm)
  · rcases hv with hv | hv
    · rw [hv]; exact h.free x hx k hk
    · rw [hv]
      intro e
      cases e
      have := (World.ownsRow.lt (h.fields x hx) _ hk).2
      omega
/-- A piece's text has turned in its place. -/
theorem Sp.stay {w1 : World} {now' : List Pc} (h : Sp w g wh ot vo vn fv now op due) (hown : w1.ownsRow (g + 1) 45 2 vn now'.length (now'.flatMap pcC)) (hg : w.grownBy w1 vn.ownBlock) : Sp w1 g wh ot vo vn fv now' op due := by
  refine ⟨h.blk.grown hg (own_ne h.own (by omega)), World.ownsRow.kept h.out hg (own_kinds h.out h.own (by decide)), hown, fun x hx => World.ownsRow.kept (h.fields x hx) hg ?_, h.free⟩
  cases hk : x.2.ownBlock with
  | none => exact .inl rfl
  | some k => exact .inr (fun e => h.free x hx k hk e.symm)
/-- A field has been put behind the others. -/
theorem Sp.push {w1 : World} {vo' : Value} (h : Sp w g wh ot vo vn fv now op due) (hown : w1.ownsRow (g + 1) 30 1 vo' (fv.length + 1) (fv.map (·.2) ++ [vn])) (hg : w.grownBy w1 vo.ownBlock) :
    Sp ((((w1.setCell ⟨g, 2, none⟩ vo').setCell ⟨g, 3, none⟩ (.slice none 0 0))).setCell ⟨g, 4, none⟩ (.bool false)) g wh ot vo' (.slice none 0 0) (fv ++ [(now, vn)]) [] false due := by
  have hb := (((h.blk.grown hg (own_ne h.out (by omega))).put 2 vo').put 3 (.slice none 0 0)).put 4 (.bool false)
  have key : ∀ {v : Value} {l : List Pc}, w.ownsRow (g + 1) 45 2 v l.length (l.flatMap pcC) → w1.ownsRow (g + 1) 45 2 v l.length (l.flatMap pcC) := fun hv => World.ownsRow.kept hv hg (own_kinds hv h.out (by decide))
  refine ⟨hb, ?_, World.ownsRow_nil _ _ _ _, fun x hx => ?_, fun x _ k _ => by simp [Value.ownBlock]⟩
  · refine own_far (own_far (own_far ?_ (by simp) _) (by simp) _) (by simp) _
    rw [List.length_append, List.map_append]
    exact hown
  · refine own_far (own_far (own_far ?_ (by simp) _) (by simp) _) (by simp) _
    rcases List.mem_append.1 hx with hx | hx
    · exact key (h.fields x hx)
    · simp at hx; subst hx
      exact key h.own
theorem Sp.drop (h : Sp w g wh ot vo vn fv now op due) : Sp ((w.setCell ⟨g, 3, none⟩ (.slice none 0 0)).setCell ⟨g, 4, none⟩ (.bool false)) g wh ot vo (.slice none 0 0) fv [] false due := by
  have hb := (h.blk.put 3 (.slice none 0 0)).put 4 (.bool false)
  exact ⟨hb, own_far (own_far h.out (by simp) _) (by simp) _, World.ownsRow_nil _ _ _ _, fun x hx => own_far (own_far (h.fields x hx) (by simp) _) (by simp) _, fun x _ k _ => by simp [Value.ownBlock]⟩
theorem Sp.cells (h : Sp w g wh ot vo vn fv now op due) : (w.cell? ⟨g, 0, none⟩ = some (.string wh) ∧ w.cell? ⟨g, 1, none⟩ = some (.string ot) ∧ w.cell? ⟨g, 2, none⟩ = some vo ∧ w.cell? ⟨g, 3, none⟩ = some vn ∧ w.cell? ⟨g, 4, none⟩ = some (.bool op) ∧ w.cell? ⟨g, 5, none⟩ = some (.bool due)) ∧
    w.frozen? ⟨g, 2, none⟩ = false ∧ w.frozen? ⟨g, 3, none⟩ = false ∧ w.frozen? ⟨g, 4, none⟩ = false ∧ w.frozen? ⟨g, 5, none⟩ = false :=
  ⟨⟨h.blk.cell 0, h.blk.cell 1, h.blk.cell 2, h.blk.cell 3, h.blk.cell 4, h.blk.cell 5⟩, h.blk.free 2, h.blk.free 3, h.blk.free 4, h.blk.free 5⟩
end

/-- The splitter stands for a state of the machine. -/
def SpAt (w : World) (g : Nat) (wh ot : ByteArray) (s : St) : Prop := ∃ vo vn fv, Sp w g wh ot vo vn fv s.now s.op s.due ∧ fv.map (·.1) = s.out
theorem SpAt.below {w w' : World} {g : Nat} {wh ot : ByteArray} {s : St} (h : SpAt w g wh ot s) (hb : Below w.heap.size w w') : SpAt w' g wh ot s := by
  obtain ⟨vo, vn, fv, h1, h2⟩ := h
  exact ⟨vo, vn, fv, h1.below hb, h2⟩
theorem pcs_one (l : List Pc) : ∀ u ∈ l.flatMap pcC, u.oneCell' = true := by
  intro u hu
  obtain ⟨s, _, hs⟩ := List.mem_flatMap.1 hu
  simp [pcC] at hs
  rcases hs with rfl | rfl <;> rfl
theorem flat_set (m : List Pc) (p : Pc) (u : ByteArray) : ((m ++ [p]).flatMap pcC).set (m.length * 2) (.string u) = (m ++ [(⟨u, p.q⟩ : Pc)]).flatMap pcC := by
  rw [List.flatMap_append, List.flatMap_append, List.set_append, flat_len pcC 2 pcC_len, if_neg (by omega), Nat.sub_self]
  rfl
end Go.Proofs.Ytlehofcgkmhgaaa
