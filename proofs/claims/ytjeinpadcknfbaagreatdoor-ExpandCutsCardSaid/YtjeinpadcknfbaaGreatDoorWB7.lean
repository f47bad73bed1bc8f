/-
  Text, Join: the walks.
-/
import Derived.Test.YtjeinpadcknfbaaGreatDoorWB6
import Derived.Test.YtjeinpadcknfbaaGreatDoorWB3
import Derived.Laws.OwnMore
import Derived.Test.YtjeinpadcknfbaaGreatDoorWB5
import Derived.Deep.RegionLaw
import Derived.Test.YtjeinpadcknfbaaGreatDoorWB2
import Derived.Deep.QuietTactic
import Derived.BigQuiet
import Derived.Test.YtjeinpadcknfbaaGreatDoorWB4
import Derived.Deep.AppendLies
import Derived.Shelf.Strings.Builder1
set_option linter.unusedVariables false
set_option linter.unusedSimpArgs false
/-
  The splitter in memory; pieces that came in.
-/
namespace Go.Proofs.YtjeinpadcknfbaaGreatDoor
open Go.RowKit

def inC (p : In) : List Value := [.string p.t, .bool p.q, .bool p.s, .bool p.b]
theorem inC_len (p : In) : (inC p).length = 4 := rfl
theorem infoPc : (Tryz.prog.info? 101).map (fun i => (i.zero, i.size, i.bytes)) = some (some (.agg #[.string ⟨#[]⟩, .bool false]), 2, 24) := by kernel_rfl
theorem infoFd : (Tryz.prog.info? 70).map (fun i => (i.zero, i.size, i.bytes)) = some (some (.slice none 0 0), 1, 24) := by kernel_rfl

/-- Rows of elements of two kinds lie in two blocks. -/
theorem own_kinds {w : World} {b1 b2 e1 e2 s1 s2 n1 n2 : Nat} {v1 v2 : Value} {x1 x2 : List Value} (h1 : w.ownsRow b1 e1 s1 v1 n1 x1) (h2 : w.ownsRow b2 e2 s2 v2 n2 x2) (hne : e1 ≠ e2) : v1.ownBlock = none ∨ v1.ownBlock ≠ v2.ownBlock := by
  rcases h1.2 with ⟨rfl, _⟩ | ⟨g, c, cur, rfl, _, hg, _⟩
  · exact .inl rfl
  · right
    rcases h2.2 with ⟨rfl, _⟩ | ⟨g2, c2, cur2, rfl, _, hg2, _⟩
    · simp [Value.ownBlock]
    · intro e
      simp [Value.ownBlock] at e
      subst e
      rw [hg] at hg2
      simp at hg2
      exact hne hg2.2
/-- An element of a row of the call's own: where it lies. -/
theorem own_at {P : Program} {w : World} {base e size n : Nat} {v : Value} {xs : List Value} (h : w.ownsRow base e size v n xs) (T : Nat) (hT : P.underlying T = some (.slice e)) (hs : (P.info? e).map (·.size) = some size) {k : Nat} (hk : k < n) (i : Int) (hi : i = k) :
    ∃ g cap, v = .slice (some ⟨g, 0, none⟩) n cap ∧ base ≤ g ∧ g < w.heap.size ∧ (∀ w' : World, (Instr.indexAt T v (.int .i64 i)).run P w' = .ok (.pointer (some ⟨g, k * size, none⟩)) w') ∧ ∀ j, j < n * size → w.cell? ⟨g, j, none⟩ = xs[j]? ∧ w.frozen? ⟨g, j, none⟩ = false := by
  subst hi
  have hsl := Sl.of_own h
  rcases h.2 with ⟨rfl, h0⟩ | ⟨g, cap, cur, rfl, hb, hg, r⟩
  · omega
  · obtain ⟨a, cap', b, off, hv, _, _, h1, h2, h3⟩ := hsl.open (P := P) T e hT hs
    cases hv
    refine ⟨g, cap, rfl, hb, (Array.getElem?_eq_some_iff.1 hg).1, fun w' => ?_, fun j hj => ⟨World.ownsRow.cellAt h j hj, World.ownsRow.frozenAt h j⟩⟩
    have he : P.elem T = e := by simp [Program.elem, hT]
    obtain ⟨i, hi, hi1⟩ := Option.map_eq_some_iff.1 hs
    rw [run_indexAt_slice _ _ _ _ _ _ _ (by rw [he]; exact hT), if_pos ⟨by omega, by omega⟩, he]
    simp [sizeOf, typeInfo, hi, hi1, Result.andThen, addr_add]

/-- A new block, then a row has grown: what stays. -/
theorem grown_stays {w W w2 : World} {g : Nat} {o : Obj} {row : Option Nat} (h : Below g w W) (hg : g < W.heap.size) (hgrow : (W.alloc o).grownBy w2 row) (hlo : ∀ k, row = some k → g + 1 ≤ k) :
    Below g w w2 ∧ (∀ i, w2.cell? ⟨g, i, none⟩ = W.cell? ⟨g, i, none⟩) ∧ ∀ i, w2.frozen? ⟨g, i, none⟩ = W.frozen? ⟨g, i, none⟩ := by
  have e : w2.heap[g]? = W.heap[g]? := (hgrow.block g (by simp; omega) (fun e => by have := hlo _ e.symm; omega)).trans (Below.heap_alloc W o g hg)
  exact ⟨(h.alloc (by omega) o).grown hgrow (by simp; omega) (fun k hk => by have := hlo k hk; omega), fun i => World.cell?_of_block e, fun i => World.frozen?_of_block e⟩

abbrev Fv := List Pc × Value
def FieldsAt (w : World) (B : Nat) (fv : List Fv) : Prop := ∀ x ∈ fv, w.ownsRow B 101 2 x.2 x.1.length (x.1.flatMap pcC)
def Free (v : Value) (fv : List Fv) : Prop := ∀ x ∈ fv, ∀ k, x.2.ownBlock = some k → v.ownBlock ≠ some k
def spC (wh ot : ByteArray) (vo vn : Value) (op due : Bool) : Array Value := #[.string wh, .string ot, vo, vn, .bool op, .bool due]
structure Sp (w : World) (g : Nat) (wh ot : ByteArray) (vo vn : Value) (fv : List Fv) (now : List Pc) (op due : Bool) : Prop where
  blk : Blk w g 76 (spC wh ot vo vn op due)
  out : w.ownsRow (g + 1) 70 1 vo fv.length (fv.map (·.2))
  own : w.ownsRow (g + 1) 101 2 vn now.length (now.flatMap pcC)
  fields : FieldsAt w (g + 1) fv
  free : Free vn fv

section
variable {w w' : World} {g : Nat} {wh ot : ByteArray} {vo vn : Value} {fv : List Fv} {now : List Pc} {op due : Bool}
theorem Sp.below (h : Sp w g wh ot vo vn fv now op due) (hb : Below w.heap.size w w') : Sp w' g wh ot vo vn fv now op due :=
  ⟨h.blk.below hb h.blk.lt, own_below h.out hb, own_below h.own hb, fun x hx => own_below (h.fields x hx) hb, h.free⟩
theorem Sp.set {i : Nat} {u : Value} {vo' vn' : Value} {op' due' : Bool} (h : Sp w g wh ot vo vn fv now op due) (he : (spC wh ot vo vn op due).setIfInBounds i u = spC wh ot vo' vn' op' due') (hv : vo' = vo) (hn : vn' = vn) : Sp (w.setCell ⟨g, i, none⟩ u) g wh ot vo' vn' fv now op' due' := by
  subst hv hn
  have hb := h.blk.put i u
  rw [he] at hb
  exact ⟨hb, own_far h.out (by simp) _, own_far h.own (by simp) _, fun x hx => own_far (h.fields x hx) (by simp) _, h.free⟩
/-- The pieces' row has grown or turned; it is written back. -/
theorem Sp.turn {w1 : World} {vn' : Value} {now' : List Pc} (h : Sp w g wh ot vo vn fv now op due) (hown : w1.ownsRow (g + 1) 101 2 vn' now'.length (now'.flatMap pcC)) (hg : w.grownBy w1 vn.ownBlock) (hv : vn'.ownBlock = vn.ownBlock ∨ vn'.ownBlock = some w.heap.size) :
    Sp (w1.setCell ⟨g, 3, none⟩ vn') g wh ot vo vn' fv now' op due := by
  have hb := (h.blk.grown hg (own_ne h.own (by omega))).put 3 vn'
  refine ⟨hb, own_far (World.ownsRow.kept h.out hg (own_kinds h.out h.own (by decide))) (by simp) _, own_far hown (by simp) _, fun x hx => own_far (World.ownsRow.kept (h.fields x hx) hg ?_) (by simp) _, fun x hx k hk => ?_⟩
  · cases hk : x.2.ownBlock with
    | none => exact .inl rfl
    | some k => exact .inr (fun e => h.free x hx k hk e.symm)
  · rcases hv with hv | hv
    · rw [hv]; exact h.free x hx k hk
    · rw [hv]
      intro e
      cases e
      have := (World.ownsRow.lt (h.fields x hx) _ hk).2
      omega
/-- A piece's text has turned in its place. -/
theorem Sp.stay {w1 : World} {now' : List Pc} (h : Sp w g wh ot vo vn fv now op due) (hown : w1.ownsRow (g + 1) 101 2 vn now'.length (now'.flatMap pcC)) (hg : w.grownBy w1 vn.ownBlock) : Sp w1 g wh ot vo vn fv now' op due := by
  refine ⟨h.blk.grown hg (own_ne h.own (by omega)), World.ownsRow.kept h.out hg (own_kinds h.out h.own (by decide)), hown, fun x hx => World.ownsRow.kept (h.fields x hx) hg ?_, h.free⟩
  cases hk : x.2.ownBlock with
  | none => exact .inl rfl
  | some k => exact .inr (fun e => h.free x hx k hk e.symm)
/-- A field has been put behind the others. -/
theorem Sp.push {w1 : World} {vo' : Value} (h : Sp w g wh ot vo vn fv now op due) (hown : w1.ownsRow (g + 1) 70 1 vo' (fv.length + 1) (fv.map (·.2) ++ [vn])) (hg : w.grownBy w1 vo.ownBlock) :
    Sp ((((w1.setCell ⟨g, 2, none⟩ vo').setCell ⟨g, 3, none⟩ (.slice none 0 0))).setCell ⟨g, 4, none⟩ (.bool false)) g wh ot vo' (.slice none 0 0) (fv ++ [(now, vn)]) [] false due := by
  have hb := (((h.blk.grown hg (own_ne h.out (by omega))).put 2 vo').put 3 (.slice none 0 0)).put 4 (.bool false)
  have key : ∀ {v : Value} {l : List Pc}, w.ownsRow (g + 1) 101 2 v l.length (l.flatMap pcC) → w1.ownsRow (g + 1) 101 2 v l.length (l.flatMap pcC) := fun hv => World.ownsRow.kept hv hg (own_kinds hv h.out (by decide))
  refine ⟨hb, ?_, World.ownsRow_nil _ _ _ _, fun x hx => ?_, fun x _ k _ => by simp [Value.ownBlock]⟩
  · refine own_far (own_far (own_far ?_ (by simp) _) (by simp) _) (by simp) _
    rw [List.length_append, List.map_append]
    exact hown
  · refine own_far (own_far (own_far ?_ (by simp) _) (by simp) _) (by simp) _
    rcases List.mem_append.1 hx with hx | hx
    · exact key (h.fields x hx)
    · simp at hx; subst hx
      exact key h.own
theorem Sp.drop (h : Sp w g wh ot vo vn fv now op due) : Sp ((w.setCell ⟨g, 3, none⟩ (.slice none 0 0)).setCell ⟨g, 4, none⟩ (.bool false)) g wh ot vo (.slice none 0 0) fv [] false due := by
  have hb := (h.blk.put 3 (.slice none 0 0)).put 4 (.bool false)
  exact ⟨hb, own_far (own_far h.out (by simp) _) (by simp) _, World.ownsRow_nil _ _ _ _, fun x hx => own_far (own_far (h.fields x hx) (by simp) _) (by simp) _, fun x _ k _ => by simp [Value.ownBlock]⟩
theorem Sp.cells (h : Sp w g wh ot vo vn fv now op due) : (w.cell? ⟨g, 0, none⟩ = some (.string wh) ∧ w.cell? ⟨g, 1, none⟩ = some (.string ot) ∧ w.cell? ⟨g, 2, none⟩ = some vo ∧ w.cell? ⟨g, 3, none⟩ = some vn ∧ w.cell? ⟨g, 4, none⟩ = some (.bool op) ∧ w.cell? ⟨g, 5, none⟩ = some (.bool due)) ∧
    w.frozen? ⟨g, 2, none⟩ = false ∧ w.frozen? ⟨g, 3, none⟩ = false ∧ w.frozen? ⟨g, 4, none⟩ = false ∧ w.frozen? ⟨g, 5, none⟩ = false :=
  ⟨⟨h.blk.cell 0, h.blk.cell 1, h.blk.cell 2, h.blk.cell 3, h.blk.cell 4, h.blk.cell 5⟩, h.blk.free 2, h.blk.free 3, h.blk.free 4, h.blk.free 5⟩
end

/-- The splitter stands for a state of the machine. -/
def SpAt (w : World) (g : Nat) (wh ot : ByteArray) (s : St) : Prop := ∃ vo vn fv, Sp w g wh ot vo vn fv s.now s.op s.due ∧ fv.map (·.1) = s.out
theorem SpAt.below {w w' : World} {g : Nat} {wh ot : ByteArray} {s : St} (h : SpAt w g wh ot s) (hb : Below w.heap.size w w') : SpAt w' g wh ot s := by
  obtain ⟨vo, vn, fv, h1, h2⟩ := h
  exact ⟨vo, vn, fv, h1.below hb, h2⟩
theorem pcs_one (l : List Pc) : ∀ u ∈ l.flatMap pcC, u.oneCell' = true := by
  intro u hu
  obtain ⟨s, _, hs⟩ := List.mem_flatMap.1 hu
  simp [pcC] at hs
  rcases hs with rfl | rfl <;> rfl
theorem flat_set (m : List Pc) (p : Pc) (u : ByteArray) : ((m ++ [p]).flatMap pcC).set (m.length * 2) (.string u) = (m ++ [(⟨u, p.q⟩ : Pc)]).flatMap pcC := by
  rw [List.flatMap_append, List.flatMap_append, List.set_append, flat_len pcC 2 pcC_len, if_neg (by omega), Nat.sub_self]
  rfl
end Go.Proofs.YtjeinpadcknfbaaGreatDoor
/-
  put: the walk.
-/
namespace Go.Proofs.YtjeinpadcknfbaaGreatDoor
open Go.RowKit

theorem last_cells (m : List Pc) (p : Pc) : ((m ++ [p]).flatMap pcC)[m.length * 2]? = some (.string p.t) ∧ ((m ++ [p]).flatMap pcC)[m.length * 2 + 1]? = some (.bool p.q) := by
  have hx : (m ++ [p])[m.length]? = some p := by simp
  have h0 := flat_get pcC 2 pcC_len (m ++ [p]) m.length p hx 0 (by omega)
  have h1 := flat_get pcC 2 pcC_len (m ++ [p]) m.length p hx 1 (by omega)
  exact ⟨h0, h1⟩

set_option maxHeartbeats 1000000 in
theorem put_any (s : St) (t : ByteArray) (q : Bool) (g : Nat) (wh ot : ByteArray) (w : World) (h : SpAt w g wh ot s) (hn : s.now.length ≤ 1000000) (hcat : ∀ p ∈ s.now, p.t.size + t.size ≤ 9223372036854775807) :
    Calls Tryz.prog 31 #[.pointer (some ⟨g, 0, none⟩), .string t, .bool q] w fun e w' => e = .returned (.tuple #[]) ∧ SpAt w' g wh ot (putS s t q) ∧ Below g w w' := by
  obtain ⟨vo, vn, fv, hsp, hout⟩ := h
  have hg := hsp.blk.lt
  have hsp2 := (hsp.set (i := 5) (u := .bool false) (due' := false) rfl rfl rfl).set (i := 4) (u := .bool true) (op' := true) rfl rfl rfl
  obtain ⟨⟨c0, c1, c2, c3, c4, c5⟩, f2, f3, f4, f5⟩ := hsp.cells
  obtain ⟨out, now, op, due⟩ := s
  simp only at hsp hsp2 hout hn hcat c0 c1 c2 c3 c4 c5
  have HO := Lib.hid hout
  have HS2 := Lib.hid hsp2
  have HB0 : Hid (Below g w ((w.setCell ⟨g, 5, none⟩ (.bool false)).setCell ⟨g, 4, none⟩ (.bool true))) := Lib.hid (((Below.refl g w).setCell (Nat.le_refl _) _).setCell (Nat.le_refl _) _)
  have HG2 := Lib.hid hsp2.blk.lt
  clear hout hsp2
  rcases snoc_or now with rfl | ⟨m, p, rfl⟩
  · obtain ⟨a, cap, rfl⟩ := own_shape hsp.own
    have hlo : ∀ k, (Value.slice a 0 cap).ownBlock = some k → g + 1 ≤ k := fun k hk => (World.ownsRow.lt hsp.own k hk).1
    rw [List.length_nil] at c3 HS2
    clear hn hsp hcat
    go_enter Tryz.func31, Tryz.ntmps31
    go_wp2_with (at_builtin; go_must ((refine append_sl rfl _ _ 70 rfl (g + 1) 101 Tryz.underlying70 infoPc rfl (by decide) (v := .slice a 0 cap) (n := 0) (xs := []) rfl (HS2.out.own.alloc _) (m := 1) (news := [.string t, .bool q]) rfl (sl_made_at _ #[.string t, .bool q] _ 1 2 rfl (by unfold maxLen; omega) (by simp)) (by omega) (pcs_one [⟨t, q⟩]) (by omega) (by first | (simp; omega) | omega | (trace_state; fail "A")) ?_); intro g1 cap1 w2 hown hgrow hlie hglt; have HP := Lib.hid (Sp.turn (now' := putN [] t q) (vn' := .slice (some ⟨g1, 0, none⟩) (0 + 1) cap1) (HS2.out.below (Below.alloc (Below.refl _ _) (Nat.le_refl _) _)) (by rw [putN_nil]; exact hown) hgrow (hlie.imp (fun e => e.symm) (fun e => congrArg some e))); obtain ⟨hb2, hcc, hff⟩ := grown_stays HB0.out HG2.out hgrow hlo; have HB := Lib.hid (hb2.setCell (p := ⟨g, 3, none⟩) (Nat.le_refl _) (.slice (some ⟨g1, 0, none⟩) (0 + 1) cap1)); have k3 := (hcc 3).trans HS2.out.cells.1.2.2.2.1; have y3 := (hff 3).trans HS2.out.cells.2.2.1; clear hb2 hcc hff hown hgrow hlie hglt))
    refine bodyPost_end (v := .tuple #[]) (by simp [results, Tryz.results31, go_sem]) rfl ⟨rfl, ⟨vo, _, fv, HP.out, HO.out⟩, HB.out⟩
  · obtain ⟨pt, pq⟩ := p
    replace hcat : pt.size + t.size ≤ 9223372036854775807 := hcat ⟨pt, pq⟩ (by simp)
    obtain ⟨n, hnm⟩ : ∃ n, n = m.length := ⟨_, rfl⟩
    have hlen : (m ++ [(⟨pt, pq⟩ : Pc)]).length = n + 1 := by simp [hnm]
    obtain ⟨d0, d1⟩ := last_cells m ⟨pt, pq⟩
    have hown := hsp.own
    rw [hlen] at hown hn
    rw [← hnm] at d0 d1
    obtain ⟨gb, cap, rfl, hgb, hgw, i0, hce⟩ := own_at (P := Tryz.prog) hown 70 Tryz.underlying70 (by kernel_rfl) (k := n) (by omega) (n : Int) rfl
    have e0 := (hce (n * 2) (by omega)).1.trans d0
    have e1 := (hce (n * 2 + 1) (by omega)).1.trans d1
    have q0 := (hce (n * 2) (by omega)).2
    have hgb' : g < gb := hgb
    have HLEN := Lib.hid hlen
    have HNM := Lib.hid hnm
    clear hown hce d0 d1 hgb hnm
    by_cases hq : pq = q
    · subst hq
      clear hsp hlen
      go_enter Tryz.func31, Tryz.ntmps31
      go_wp2
      have hown2 := HS2.out.own
      rw [HLEN.out] at hown2
      obtain ⟨h1, h2⟩ := World.ownsRow.stored hown2 (n * 2) (.string (pt ++ t))
      refine bodyPost_ret (v := .tuple #[]) ?_ rfl ?_
      · simp [results, Tryz.results31, go_sem]
      refine ⟨rfl, ⟨vo, _, fv, HS2.out.stay (now' := putN (m ++ [⟨pt, pq⟩]) t pq) ?_ h2, HO.out⟩, HB0.out.setCell (by simp; omega) _⟩
      rw [putN_same m ⟨pt, pq⟩ t pq rfl]
      have e2 : (m ++ [(⟨pt ++ t, pq⟩ : Pc)]).length = n + 1 := by simp [HNM.out]
      rw [e2, ← flat_set m ⟨pt, pq⟩ (pt ++ t), ← HNM.out]
      exact h1
    · have hlo : ∀ k, (Value.slice (some ⟨gb, 0, none⟩) (n + 1) cap).ownBlock = some k → g + 1 ≤ k := fun k hk => (World.ownsRow.lt hsp.own k hk).1
      have hqq : q = !pq := by cases q <;> cases pq <;> simp_all
      subst hqq
      have hpo := putN_other m ⟨pt, pq⟩ t (!pq) (by cases pq <;> simp)
      have HPO : Hid ((putN (m ++ [⟨pt, pq⟩]) t (!pq)).length = n + 1 + 1 ∧ (putN (m ++ [⟨pt, pq⟩]) t (!pq)).flatMap pcC = (m ++ [(⟨pt, pq⟩ : Pc)]).flatMap pcC ++ [.string t, .bool (!pq)]) := Lib.hid (by
        rw [hpo, List.length_append, hlen, List.flatMap_append]
        exact ⟨rfl, rfl⟩)
      have HOWN : Hid (((w.setCell ⟨g, 5, none⟩ (.bool false)).setCell ⟨g, 4, none⟩ (.bool true)).ownsRow (g + 1) 101 2 (.slice (some ⟨gb, 0, none⟩) (n + 1) cap) (n + 1) ((m ++ [(⟨pt, pq⟩ : Pc)]).flatMap pcC)) := Lib.hid (by have := HS2.out.own; rw [hlen] at this; exact this)
      clear hsp hlen hpo hq
      cases pq with
      | false =>
        simp only [Bool.not_false] at HPO ⊢
        go_enter Tryz.func31, Tryz.ntmps31
        go_wp2_with (at_builtin; go_must ((refine append_sl rfl _ _ 70 rfl (g + 1) 101 Tryz.underlying70 infoPc rfl (by decide) (v := .slice (some ⟨gb, 0, none⟩) (n + 1) cap) (n := (n + 1)) (xs := (m ++ [(⟨pt, false⟩ : Pc)]).flatMap pcC) rfl (HOWN.out.alloc _) (m := 1) (news := [.string t, .bool true]) rfl (sl_made_at _ #[.string t, .bool true] _ 1 2 rfl (by unfold maxLen; omega) (by simp)) (by omega) (pcs_one [⟨t, true⟩]) (by omega) (by first | (simp; omega) | omega | (trace_state; fail "A")) ?_); intro g1 cap1 w2 hown hgrow hlie hglt; have HP := Lib.hid (Sp.turn (now' := putN (m ++ [(⟨pt, false⟩ : Pc)]) t true) (vn' := .slice (some ⟨g1, 0, none⟩) ((n + 1) + 1) cap1) (HS2.out.below (Below.alloc (Below.refl _ _) (Nat.le_refl _) _)) (by rw [HPO.out.1, HPO.out.2]; exact hown) hgrow (hlie.imp (fun e => e.symm) (fun e => congrArg some e))); obtain ⟨hb2, hcc, hff⟩ := grown_stays HB0.out HG2.out hgrow hlo; have HB := Lib.hid (hb2.setCell (p := ⟨g, 3, none⟩) (Nat.le_refl _) (.slice (some ⟨g1, 0, none⟩) ((n + 1) + 1) cap1)); have k3 := (hcc 3).trans HS2.out.cells.1.2.2.2.1; have y3 := (hff 3).trans HS2.out.cells.2.2.1; clear hb2 hcc hff hown hgrow hlie hglt))
        refine bodyPost_end (v := .tuple #[]) (by simp [results, Tryz.results31, go_sem]) rfl ⟨rfl, ⟨vo, _, fv, HP.out, HO.out⟩, HB.out⟩
      | true =>
        simp only [Bool.not_true] at HPO ⊢
        go_enter Tryz.func31, Tryz.ntmps31
        go_wp2_with (at_builtin; go_must ((refine append_sl rfl _ _ 70 rfl (g + 1) 101 Tryz.underlying70 infoPc rfl (by decide) (v := .slice (some ⟨gb, 0, none⟩) (n + 1) cap) (n := (n + 1)) (xs := (m ++ [(⟨pt, true⟩ : Pc)]).flatMap pcC) rfl (HOWN.out.alloc _) (m := 1) (news := [.string t, .bool false]) rfl (sl_made_at _ #[.string t, .bool false] _ 1 2 rfl (by unfold maxLen; omega) (by simp)) (by omega) (pcs_one [⟨t, false⟩]) (by omega) (by first | (simp; omega) | omega | (trace_state; fail "A")) ?_); intro g1 cap1 w2 hown hgrow hlie hglt; have HP := Lib.hid (Sp.turn (now' := putN (m ++ [(⟨pt, true⟩ : Pc)]) t false) (vn' := .slice (some ⟨g1, 0, none⟩) ((n + 1) + 1) cap1) (HS2.out.below (Below.alloc (Below.refl _ _) (Nat.le_refl _) _)) (by rw [HPO.out.1, HPO.out.2]; exact hown) hgrow (hlie.imp (fun e => e.symm) (fun e => congrArg some e))); obtain ⟨hb2, hcc, hff⟩ := grown_stays HB0.out HG2.out hgrow hlo; have HB := Lib.hid (hb2.setCell (p := ⟨g, 3, none⟩) (Nat.le_refl _) (.slice (some ⟨g1, 0, none⟩) ((n + 1) + 1) cap1)); have k3 := (hcc 3).trans HS2.out.cells.1.2.2.2.1; have y3 := (hff 3).trans HS2.out.cells.2.2.1; clear hb2 hcc hff hown hgrow hlie hglt))
        refine bodyPost_end (v := .tuple #[]) (by simp [results, Tryz.results31, go_sem]) rfl ⟨rfl, ⟨vo, _, fv, HP.out, HO.out⟩, HB.out⟩
end Go.Proofs.YtjeinpadcknfbaaGreatDoor
/-
  append to a slice of the call's own, at a step of a region that draws its order.
-/
namespace Go.Proofs.YtjeinpadcknfbaaGreatDoor
open Go.RowKit

section
variable {w : World} {size : Nat}
/-- The same at a step of a region that draws its order. -/
theorem step_append_sl {P : Program} {ops : Array Oper} {o : Oper} {a : Act} {K : Act → World → Prop} {Q : Exit → Act → World → Prop} {E : Prop} (hgd : o.guard = none) (s x : Operand) (t : TypeId)
    (ho : o.op = .call { callee := .builtin .append, args := #[s, x], argTypes := #[t, t] }) (base : Nat) (e : TypeId) {z : Value} {bytes : Nat} (ht : P.underlying t = some (.slice e))
    (hinfo : (P.info? e).map (fun i => (i.zero, i.size, i.bytes)) = some (some z, size, bytes)) (hzs : z.cells.size = size) (hsz : 0 < size)
    {v : Value} {n : Nat} {xs : List Value} (hs : a.eval s = v) (hown : w.ownsRow base e size v n xs) {vx : Value} {m : Nat} {news : List Value} {B : Nat} (hx : a.eval x = vx) (hsl : Sl w B size vx m news) (hne : 0 < m) (h1 : ∀ u ∈ news, u.oneCell' = true)
    (hlen : (n + m) * (bytes + 1) ≤ 140737488355328) (hbase : base ≤ w.heap.size)
    (h : ∀ g cap w', w'.ownsRow base e size (.slice (some ⟨g, 0, none⟩) (n + m) cap) (n + m) (xs ++ news) → w.grownBy w' v.ownBlock → (v.ownBlock = some g ∨ g = w.heap.size) → g < w'.heap.size → K (a.put o.dst (.slice (some ⟨g, 0, none⟩) (n + m) cap)) w') :
    if Region.wanted o (yielded ops a.tmps) = true then Oper.wp P o a w K Q else E := by
  obtain ⟨i0, hi, hz0, hz1, hz2⟩ := info_parts hinfo
  obtain ⟨k1, ax, cx, rfl, k3, k4, k5⟩ := hsl
  rcases k5 with k5 | ⟨b, off, rfl, kB, kc⟩
  · omega
  have hb1 : (n + m) * bytes ≤ 140737488355328 := Nat.le_trans (Nat.mul_le_mul_left _ (by omega)) hlen
  have hb2 : n + m ≤ 140737488355328 := Nat.le_trans (Nat.le_mul_of_pos_right _ (by omega)) hlen
  exact step_append_lies w hgd s x t ho base e i0 z size bytes ht hi hz0 hz1 hz2 hzs hsz v n xs hs hown ⟨b, off, none⟩ m cx news hx k1 (fun j u hj => by
    have hj' : j < m * size := by rw [← k1]; exact (List.getElem?_eq_some_iff.1 hj).1
    rw [addr_add, kc j hj', hj]) h1 hne (by unfold maxLen; omega) hb1 hbase _ rfl h
end
end Go.Proofs.YtjeinpadcknfbaaGreatDoor
/-
  end: the walk.
-/
namespace Go.Proofs.YtjeinpadcknfbaaGreatDoor
open Go.RowKit

set_option maxHeartbeats 1000000 in
theorem end_any (s : St) (must : Bool) (g : Nat) (wh ot : ByteArray) (w : World) (h : SpAt w g wh ot s) (hn : s.out.length ≤ 1000000) :
    Calls Tryz.prog 30 #[.pointer (some ⟨g, 0, none⟩), .bool must] w fun e w' => e = .returned (.tuple #[]) ∧ SpAt w' g wh ot (endS s must) ∧ Below g w w' := by
  obtain ⟨vo, vn, fv, hsp, hout⟩ := h
  have hg := hsp.blk.lt
  obtain ⟨⟨c0, c1, c2, c3, c4, c5⟩, f2, f3, f4, f5⟩ := hsp.cells
  obtain ⟨out, now, op, due⟩ := s
  simp only at hsp hout hn c0 c1 c2 c3 c4 c5
  have hfl : fv.length ≤ 1000000 := by rw [← hout, List.length_map] at hn; exact hn
  have HO := Lib.hid hout
  have HS := Lib.hid hsp
  obtain ⟨oa, ocap, rfl⟩ := own_shape hsp.out
  obtain ⟨na, ncap, rfl⟩ := own_shape hsp.own
  have hlo : ∀ k, (Value.slice oa fv.length ocap).ownBlock = some k → g + 1 ≤ k := fun k hk => (World.ownsRow.lt hsp.out k hk).1
  clear hout hsp hn
  cases e : (op || must) with
  | false =>
    have e1 : op = false := by cases op <;> simp_all
    have e2 : must = false := by cases must <;> simp_all
    subst e1 e2
    go_enter Tryz.func30, Tryz.ntmps30
    go_wp2
    refine bodyPost_end (v := .tuple #[]) ?_ rfl ?_
    · simp [results, Tryz.results30, go_sem]
    exact ⟨rfl, ⟨_, _, fv, HS.out.drop, HO.out⟩, ((Below.refl g w).setCell (Nat.le_refl _) _).setCell (Nat.le_refl _) _⟩
  | true =>
    cases op with
    | true =>
      go_enter Tryz.func30, Tryz.ntmps30
      go_wp2_with fail
      go_region_law (refine step_append_sl rfl _ _ 64 rfl (g + 1) 70 Tryz.underlying64 infoFd rfl (by decide) (v := .slice oa fv.length ocap) (n := fv.length) (xs := fv.map (·.2)) rfl (by first | exact (own_below HS.out.out (Below.drew (Below.refl _ _))).alloc _ | exact own_below (HS.out.out.alloc _) (Below.drew (Below.refl _ _))) (m := 1) (news := [.slice na now.length ncap]) rfl (sl_made_at _ #[.slice na now.length ncap] _ 1 1 rfl (by unfold maxLen; omega) (by simp)) (by omega) (by intro u hu; simp at hu; subst hu; rfl) (by omega) (by simp; omega) ?_; intro g1 cap1 w2 hown hgrow hlie hglt; have hg2 : (w.alloc (.cells #[.slice na now.length ncap] 70)).grownBy w2 (Value.slice oa fv.length ocap).ownBlock := ⟨hgrow.os, hgrow.tape, hgrow.output, hgrow.size, hgrow.block⟩; obtain ⟨hb2, hcc, hff⟩ := grown_stays (Below.refl g w) hg hg2 hlo; have HP := Lib.hid ((HS.out.below (Below.alloc (Below.refl _ _) (Nat.le_refl _) _)).push hown hg2); have HB := Lib.hid (((hb2.setCell (p := ⟨g, 2, none⟩) (Nat.le_refl _) (.slice (some ⟨g1, 0, none⟩) (fv.length + 1) cap1)).setCell (p := ⟨g, 3, none⟩) (Nat.le_refl _) (.slice none 0 0)).setCell (p := ⟨g, 4, none⟩) (Nat.le_refl _) (.bool false)); have k2 := (hcc 2).trans c2; have k3 := (hcc 3).trans c3; have k4 := (hcc 4).trans c4; have y2 := (hff 2).trans f2; have y3 := (hff 3).trans f3; have y4 := (hff 4).trans f4; clear hg2 hb2 hcc hff hown hgrow hlie hglt)
      all_goals
        go_wp2
        refine bodyPost_end (v := .tuple #[]) ?_ rfl ?_
        · simp [results, Tryz.results30, go_sem]
        refine ⟨rfl, ⟨_, _, _, HP.out, ?_⟩, HB.out⟩
        rw [List.map_append, HO.out]
        first | rfl | (unfold endS; simp)
    | false =>
      have e2 : must = true := by cases must <;> simp_all
      subst e2
      go_enter Tryz.func30, Tryz.ntmps30
      go_wp2_with fail
      go_region_law (refine step_append_sl rfl _ _ 64 rfl (g + 1) 70 Tryz.underlying64 infoFd rfl (by decide) (v := .slice oa fv.length ocap) (n := fv.length) (xs := fv.map (·.2)) rfl (by first | exact (own_below HS.out.out (Below.drew (Below.refl _ _))).alloc _ | exact own_below (HS.out.out.alloc _) (Below.drew (Below.refl _ _))) (m := 1) (news := [.slice na now.length ncap]) rfl (sl_made_at _ #[.slice na now.length ncap] _ 1 1 rfl (by unfold maxLen; omega) (by simp)) (by omega) (by intro u hu; simp at hu; subst hu; rfl) (by omega) (by simp; omega) ?_; intro g1 cap1 w2 hown hgrow hlie hglt; have hg2 : (w.alloc (.cells #[.slice na now.length ncap] 70)).grownBy w2 (Value.slice oa fv.length ocap).ownBlock := ⟨hgrow.os, hgrow.tape, hgrow.output, hgrow.size, hgrow.block⟩; obtain ⟨hb2, hcc, hff⟩ := grown_stays (Below.refl g w) hg hg2 hlo; have HP := Lib.hid ((HS.out.below (Below.alloc (Below.refl _ _) (Nat.le_refl _) _)).push hown hg2); have HB := Lib.hid (((hb2.setCell (p := ⟨g, 2, none⟩) (Nat.le_refl _) (.slice (some ⟨g1, 0, none⟩) (fv.length + 1) cap1)).setCell (p := ⟨g, 3, none⟩) (Nat.le_refl _) (.slice none 0 0)).setCell (p := ⟨g, 4, none⟩) (Nat.le_refl _) (.bool false)); have k2 := (hcc 2).trans c2; have k3 := (hcc 3).trans c3; have k4 := (hcc 4).trans c4; have y2 := (hff 2).trans f2; have y3 := (hff 3).trans f3; have y4 := (hff 4).trans f4; clear hg2 hb2 hcc hff hown hgrow hlie hglt)
      all_goals
        go_wp2
        refine bodyPost_end (v := .tuple #[]) ?_ rfl ?_
        · simp [results, Tryz.results30, go_sem]
        refine ⟨rfl, ⟨_, _, _, HP.out, ?_⟩, HB.out⟩
        rw [List.map_append, HO.out]
        first | rfl | (unfold endS; simp)
end Go.Proofs.YtjeinpadcknfbaaGreatDoor
/-
  whites, split: the walks.
-/
namespace Go.Proofs.YtjeinpadcknfbaaGreatDoor
open Go.RowKit

def whL (l : List UInt8) : List UInt8 := l.filter isW
def otL (l : List UInt8) : List UInt8 := l.filter (fun c => !isW c)
theorem wh_has (l : List UInt8) (c : UInt8) : hasBf (whL l) c = (hasBf l c && isW c) := by
  unfold hasBf whL
  rw [Bool.eq_iff_iff]
  simp
theorem ot_has (l : List UInt8) (c : UInt8) : hasBf (otL l) c = (hasBf l c && !isW c) := by
  unfold hasBf otL
  rw [Bool.eq_iff_iff]
  simp
theorem ib_any (l : List UInt8) (c : UInt8) : ∃ v : Int, Lib.indexByte l c = v ∧ decide (v < 0) = !hasBf l c := by
  refine ⟨_, rfl, ?_⟩
  have h0 := Lib.indexByte_ge l c
  unfold hasBf
  by_cases h : c ∈ l
  · have : ¬ Lib.indexByte l c < 0 := fun hlt => by
      obtain ⟨k, hk, e⟩ := List.getElem_of_mem h
      exact Lib.indexByte_none (show Lib.indexByte l c = -1 by omega) k (by rw [List.getElem?_eq_getElem hk, e])
    simp [h, this]
  · have : Lib.indexByte l c < 0 := by
      rcases Int.lt_or_le (Lib.indexByte l c) 0 with h1 | h1
      · exact h1
      · obtain ⟨n, hn⟩ := Int.eq_ofNat_of_zero_le h1
        exact absurd (List.mem_of_getElem? (Lib.indexByte_some hn).1) h
    simp [h, this]
theorem take_snoc {l : List UInt8} {k : Nat} (h : k < l.length) : l.take (k + 1) = l.take k ++ [l.getD k 0] := by
  rw [List.take_succ_eq_append_getElem h]; simp [List.getD, h]
theorem filter_snoc (p : UInt8 → Bool) (l : List UInt8) (c : UInt8) : (l ++ [c]).filter p = l.filter p ++ if p c then [c] else [] := by
  rw [List.filter_append]
  cases h : p c <;> simp [h]
theorem S_snoc (l : List UInt8) (c : UInt8) : S l ++ ⟨#[c]⟩ = S (l ++ [c]) := S_append l [c]

set_option maxHeartbeats 1000000 in
theorem whites_any (s : ByteArray) (w : World) (hs : s.size ≤ 9223372036854775807) :
    Calls Tryz.prog 29 #[.string s] w fun e w' => e = .returned (.tuple #[.string (S (whL (L s))), .string (S (otL (L s)))]) ∧ Below w.heap.size w w' := by
  have HBM := Lib.hid (BytesAt.made w 5 s)
  have HBW := Lib.hid (below_bytesWorld w 5 s)
  go_enter Tryz.func29, Tryz.ntmps29
  go_wp2_with fail
  go_loopw [2, 3, 9] (fun a b i wr => ∃ k : Nat, k ≤ s.size ∧ i = .int .i64 k ∧ a = .string (S (whL ((L s).take k))) ∧ b = .string (S (otL ((L s).take k))) ∧ Below (Lib.bytesWorld w 5 s).heap.size (Lib.bytesWorld w 5 s) wr) (fun _ _ i _ => s.size - (intOf i).toNat)
  case atStart => exact ⟨0, by omega, rfl, rfl, rfl, Below.refl _ _⟩
  case round =>
    obtain ⟨k, hk, rfl, rfl, rfl, hb⟩ := hrel
    have HB := Lib.hid hb
    clear hb
    by_cases hlt : k < s.size
    · have hcell := ((HBM.out.below HB.out (by rw [Lib.bytesWorld_size]; omega)) k (by rw [L_size]; exact hlt)).1
      have htk := take_snoc (show k < (L s).length from hlt)
      obtain ⟨c, hc⟩ : ∃ c, c = (L s).getD k 0 := ⟨_, rfl⟩
      rw [← hc] at hcell htk
      have HTK := Lib.hid htk
      have e1 : (((c.toNat : Nat) : Int) == 32) = (c == 32) := beq_byte c 32
      have e2 : (((c.toNat : Nat) : Int) == 9) = (c == 9) := beq_byte c 9
      have e3 : (((c.toNat : Nat) : Int) == 10) = (c == 10) := beq_byte c 10
      have hw : isW c = (c == 32 || c == 9 || c == 10) := rfl
      obtain ⟨b1, hb1⟩ : ∃ b, (c == 32) = b := ⟨_, rfl⟩
      obtain ⟨b2, hb2⟩ : ∃ b, (c == 9) = b := ⟨_, rfl⟩
      obtain ⟨b3, hb3⟩ : ∃ b, (c == 10) = b := ⟨_, rfl⟩
      rw [hb1, hb2, hb3] at hw
      rw [hb1] at e1
      rw [hb2] at e2
      rw [hb3] at e3
      have z1 : (S (whL ((L s).take k))).size ≤ k := by rw [S_size]; exact Nat.le_trans (List.length_filter_le _ _) (by rw [List.length_take]; omega)
      have z2 : (S (otL ((L s).take k))).size ≤ k := by rw [S_size]; exact Nat.le_trans (List.length_filter_le _ _) (by rw [List.length_take]; omega)
      have F1 : Hid (whL ((L s).take (k + 1)) = whL ((L s).take k) ++ if isW c then [c] else []) := Lib.hid (by rw [HTK.out]; exact filter_snoc _ _ _)
      have F2 : Hid (otL ((L s).take (k + 1)) = otL ((L s).take k) ++ if isW c then [] else [c]) := Lib.hid (by rw [HTK.out, otL, filter_snoc]; cases isW c <;> rfl)
      obtain ⟨p, hp⟩ : ∃ p, p = whL ((L s).take k) := ⟨_, rfl⟩
      obtain ⟨q, hq⟩ : ∃ q, q = otL ((L s).take k) := ⟨_, rfl⟩
      rw [← hp] at F1 z1 ⊢
      rw [← hq] at F2 z2 ⊢
      have HW := Lib.hid hw
      clear htk hc hw hb1 hb2 hb3 hp hq
      cases b1 with
      | true =>
        go_wp2
        go_roundw
        case rel => exact ⟨k + 1, by omega, by go_num, by rw [F1.out, HW.out]; first | rfl | (simp; done) | (simp [S_snoc]; done), by rw [F2.out, HW.out]; first | rfl | (simp; done) | (simp [S_snoc]; done), by first | exact HB.out | exact HB.out.alloc (by have := HB.out.size; omega) _⟩
        case measure => simp [intOf]; omega
      | false =>
        cases b2 with
        | true =>
          go_wp2
          go_roundw
          case rel => exact ⟨k + 1, by omega, by go_num, by rw [F1.out, HW.out]; first | rfl | (simp; done) | (simp [S_snoc]; done), by rw [F2.out, HW.out]; first | rfl | (simp; done) | (simp [S_snoc]; done), by first | exact HB.out | exact HB.out.alloc (by have := HB.out.size; omega) _⟩
          case measure => simp [intOf]; omega
        | false =>
          cases b3 with
          | true =>
            go_wp2
            go_roundw
            case rel => exact ⟨k + 1, by omega, by go_num, by rw [F1.out, HW.out]; first | rfl | (simp; done) | (simp [S_snoc]; done), by rw [F2.out, HW.out]; first | rfl | (simp; done) | (simp [S_snoc]; done), by first | exact HB.out | exact HB.out.alloc (by have := HB.out.size; omega) _⟩
            case measure => simp [intOf]; omega
          | false =>
            go_wp2
            go_roundw
            case rel => exact ⟨k + 1, by omega, by go_num, by rw [F1.out, HW.out]; first | rfl | (simp; done) | (simp [S_snoc]; done), by rw [F2.out, HW.out]; first | rfl | (simp; done) | (simp [S_snoc]; done), by first | exact HB.out | exact HB.out.alloc (by have := HB.out.size; omega) _⟩
            case measure => simp [intOf]; omega
    · obtain rfl : k = s.size := by omega
      have e : (L s).take s.size = L s := List.take_of_length_le (by rw [L_size]; omega)
      rw [e]
      go_wp2
      go_ret2
      exact ⟨rfl, HBW.out.trans (HB.out.mono (by rw [Lib.bytesWorld_size]; omega))⟩
theorem put_fits {l : List Pc} {t : ByteArray} {q : Bool} {m M : Nat} (h : ∀ p ∈ l, p.t.size + (t.size + m) ≤ M) (ht : t.size + m ≤ M) : ∀ p ∈ putN l t q, p.t.size + m ≤ M := by
  intro p hp
  rcases snoc_or l with rfl | ⟨k, x, rfl⟩
  · rw [putN_nil] at hp
    simp at hp; subst hp; exact ht
  · by_cases hq : x.q = q
    · rw [putN_same _ _ _ _ hq] at hp
      rcases List.mem_append.1 hp with hp | hp
      · have := h p (by simp [hp]); omega
      · simp at hp; subst hp
        have := h x (by simp)
        simp [ByteArray.size_append]; omega
    · rw [putN_other _ _ _ _ hq] at hp
      rcases List.mem_append.1 hp with hp | hp
      · have := h p hp; omega
      · simp at hp; subst hp; exact ht
def FitS (s : St) (m : Nat) : Prop := (∀ p ∈ s.now, p.t.size + m ≤ 9223372036854775807) ∧ m ≤ 9223372036854775807 ∧ cnt s + m ≤ 1000000
theorem FitS.put {s : St} {m : Nat} {t : ByteArray} {q : Bool} (h : FitS s (t.size + m)) (ht : 0 < t.size) : FitS (putS s t q) m := by
  obtain ⟨h1, h2, h3⟩ := h
  exact ⟨put_fits h1 h2, by omega, by have := cnt_put s t q; omega⟩
theorem FitS.less {s : St} {m n : Nat} (h : FitS s m) (hn : n ≤ m) : FitS s n := ⟨fun p hp => by have := h.1 p hp; omega, by have := h.2.1; omega, by have := h.2.2; omega⟩
theorem FitS.clear {s s' : St} {m : Nat} (h : FitS s (m + 1)) (hc : cnt s' ≤ cnt s + 1) (hn : s'.now = [] ∨ s'.now = s.now) : FitS s' m := by
  obtain ⟨h1, h2, h3⟩ := h
  refine ⟨fun p hp => ?_, by omega, by omega⟩
  rcases hn with hn | hn
  · rw [hn] at hp; simp at hp
  · rw [hn] at hp; have := h1 p hp; omega
theorem FitS.len {s : St} {m : Nat} (h : FitS s m) : s.now.length ≤ 1000000 ∧ s.out.length ≤ 1000000 := by
  have := h.2.2
  unfold cnt at this
  omega
end Go.Proofs.YtjeinpadcknfbaaGreatDoor
/-
  split: the walk.
-/
namespace Go.Proofs.YtjeinpadcknfbaaGreatDoor
open Go.RowKit

theorem SpAt.due {w : World} {g : Nat} {wh ot : ByteArray} {s : St} (h : SpAt w g wh ot s) (b : Bool) : SpAt (w.setCell ⟨g, 5, none⟩ (.bool b)) g wh ot ⟨s.out, s.now, s.op, b⟩ := by
  obtain ⟨vo, vn, fv, h1, h2⟩ := h
  exact ⟨vo, vn, fv, h1.set rfl rfl rfl, h2⟩
theorem SpAt.facts {w : World} {g : Nat} {wh ot : ByteArray} {s : St} (h : SpAt w g wh ot s) : g < w.heap.size ∧ w.cell? ⟨g, 4, none⟩ = some (.bool s.op) ∧ w.cell? ⟨g, 5, none⟩ = some (.bool s.due) ∧ w.frozen? ⟨g, 5, none⟩ = false := by
  obtain ⟨vo, vn, fv, h1, h2⟩ := h
  obtain ⟨⟨c0, c1, c2, c3, c4, c5⟩, f2, f3, f4, f5⟩ := h1.cells
  exact ⟨h1.blk.lt, c4, c5, f5⟩
theorem FitS.step {s : St} {m : Nat} {ifs : List UInt8} {c : UInt8} (h : FitS s (m + 1)) (hc : hasBf ifs c = true) : FitS (stepB ifs s c) m := by
  refine h.clear (cnt_step _ _ _) ?_
  unfold stepB
  rw [hc]
  simp only [if_true]
  split
  · split
    · exact .inl rfl
    · exact .inr rfl
  · split
    · exact .inr rfl
    · exact .inl rfl

set_option maxHeartbeats 4000000 in
set_option maxRecDepth 100000 in
theorem split_any (ifs : List UInt8) (s : St) (t : ByteArray) (g : Nat) (w : World) (h : SpAt w g (S (whL ifs)) (S (otL ifs)) s) (hf : FitS s t.size) :
    Calls Tryz.prog 32 #[.pointer (some ⟨g, 0, none⟩), .string t] w fun e w' => e = .returned (.tuple #[]) ∧ SpAt w' g (S (whL ifs)) (S (otL ifs)) ((L t).foldl (stepB ifs) s) ∧ Below g w w' := by
  obtain ⟨R, hR⟩ : ∃ R, R = (L t).foldl (stepB ifs) s := ⟨_, rfl⟩
  rw [← hR]
  have HH := Lib.hid h
  have HF := Lib.hid hf
  have HR := Lib.hid hR
  clear h hf hR
  go_enter Tryz.func32, Tryz.ntmps32
  go_wp2_with fail
  go_loopw [1] (fun rv wr => ∃ (r : ByteArray) (cur : St), rv = .string r ∧ SpAt wr g (S (whL ifs)) (S (otL ifs)) cur ∧ FitS cur r.size ∧ (L r).foldl (stepB ifs) cur = R ∧ Below g w wr) (fun rv _ => match rv with | .string r => r.size | _ => 0)
  case atStart => exact ⟨t, s, rfl, HH.out, HF.out, HR.out.symm, Below.refl _ _⟩
  case round =>
    obtain ⟨r, cur, rfl, hsp, hfit, hres, hb⟩ := hrel
    have hrs : r.size ≤ 1000000 := by have := hfit.2.2; omega
    have HFIT := Lib.hid hfit
    have HRES := Lib.hid hres
    have HB := Lib.hid hb
    have HSP := Lib.hid hsp
    clear hsp hfit hres hb
    obtain ⟨wo, rfl⟩ : ∃ wo : World, wo = wr := ⟨_, rfl⟩
    cases e0 : r.toList.isEmpty with
    | true =>
      have hl : L r = [] := by rw [isEmpty_L] at e0; simpa using e0
      have hcur : cur = R := by have := HRES.out; rw [hl] at this; exact this
      subst hcur
      go_wp2
      refine bodyPost_end (v := .tuple #[]) ?_ rfl ?_
      · simp [results, Tryz.results32, go_sem]
      exact ⟨rfl, HSP.out, HB.out⟩
    | false =>
      have hpos : 0 < r.size := by
        rw [isEmpty_L] at e0
        have h1 : L r ≠ [] := by simpa using e0
        exact List.length_pos_iff.2 h1
      go_wp2_with fail
      go_loopw [4] (fun nv wi => ∃ k : Nat, nv = .int .i64 k ∧ k ≤ r.size ∧ (∀ c ∈ (L r).take k, hasBf ifs c = false) ∧ SpAt wi g (S (whL ifs)) (S (otL ifs)) cur ∧ Below g w wi) (fun nv _ => r.size - (intOf nv).toNat)
      case atStart => exact ⟨0, rfl, Nat.zero_le _, by simp, HSP.out, HB.out⟩
      case round =>
        obtain ⟨k, rfl, hk, hall, hsp2, hb2⟩ := hrel
        obtain ⟨wi, rfl⟩ : ∃ wi : World, wi = wr := ⟨_, rfl⟩
        have HALL := Lib.hid hall
        have HSP2 := Lib.hid hsp2
        have HB2 := Lib.hid hb2
        clear hall hsp2 hb2
        obtain ⟨vo, vn, fv, hsp, hout⟩ := HSP2.out
        have hg := hsp.blk.lt
        obtain ⟨⟨c0, c1, c2, c3, c4, c5⟩, f2, f3, f4, f5⟩ := hsp.cells
        clear hsp hout c2 c3 f2 f3 f4
        -- the bytes before k are put
        by_cases hlt : k < r.size
        · have hidx := run_idx (P := Tryz.prog) Tryz.underlying9 r (k := .i64) (k : Int) k rfl hlt
          have htk := take_snoc (show k < (L r).length from hlt)
          obtain ⟨c, hc⟩ : ∃ c, c = (L r).getD k 0 := ⟨_, rfl⟩
          rw [← hc] at hidx htk
          obtain ⟨v1, hv1, d1⟩ := ib_any (whL ifs) c
          obtain ⟨v2, hv2, d2⟩ := ib_any (otL ifs) c
          rw [wh_has] at d1
          rw [ot_has] at d2
          have IB1 : Hid (∀ W, Calls Tryz.prog 46 #[.string (S (whL ifs)), .int .u8 ((c.toNat : Nat) : Int)] W fun e w' => e = .returned (.int .i64 v1) ∧ w' = W) := Lib.hid fun W => by
            rw [← hv1]
            simpa [S] using Tryz.strings_IndexByte (S (whL ifs)) ((c.toNat : Nat) : Int) W
          have IB2 : Hid (∀ W, Calls Tryz.prog 46 #[.string (S (otL ifs)), .int .u8 ((c.toNat : Nat) : Int)] W fun e w' => e = .returned (.int .i64 v2) ∧ w' = W) := Lib.hid fun W => by
            rw [← hv2]
            simpa [S] using Tryz.strings_IndexByte (S (otL ifs)) ((c.toNat : Nat) : Int) W
          have HTK := Lib.hid htk
          have HC := Lib.hid hc
          obtain ⟨p, hp⟩ : ∃ p, p = S (whL ifs) := ⟨_, rfl⟩
          obtain ⟨q, hq⟩ : ∃ q, q = S (otL ifs) := ⟨_, rfl⟩
          clear htk hv1 hv2 hc hp hq
          cases hh : hasBf ifs c with
          | false =>
            rw [hh] at d1 d2
            simp only [Bool.false_and, Bool.not_false] at d1 d2
            have HA2 : Hid (∀ x ∈ (L r).take (k + 1), hasBf ifs x = false) := Lib.hid (by
              rw [HTK.out]
              intro x hx
              rcases List.mem_append.1 hx with hx | hx
              · exact HALL.out x hx
              · simp at hx; subst hx; exact hh)
            clear hh
            go_wp2_with fail
            go_quiet ((go_at_call 46; with_reducible first | exact Calls.quiet_of_same (IB1.out _) | exact Calls.quiet_of_same (IB2.out _)))
            go_wp2
            go_roundw
            case rel => exact ⟨k + 1, by go_num, by omega, HA2.out, HSP2.out.below (below_drewN (Below.refl _ _) nq), below_drewN HB2.out nq⟩
            case measure => simp [intOf]; omega
          | true =>
            rw [hh] at d1 d2
            have HHH := Lib.hid hh
            cases hw : isW c with
            | true =>
              rw [hw] at d1 d2
              simp only [Bool.and_true, Bool.not_true, Bool.not_false, Bool.and_false] at d1 d2
              have d3 : decide (0 ≤ v1) = true := by have := of_decide_eq_false d1; exact decide_eq_true (by omega)
              by_cases hk0 : 0 < k
              · clear hh hw
                go_wp2_with fail
                go_quiet ((go_at_call 46; with_reducible first | exact Calls.quiet_of_same (IB1.out _) | exact Calls.quiet_of_same (IB2.out _)))
                have hx0 : r.extract 0 k = S ((L r).take k) := S_extract_to r k
                have hx1 : r.extract k r.size = S ((L r).drop k) := S_extract_from r k
                have hz0 : (S ((L r).take k)).size = k := by rw [S_size, List.length_take, L_size]; omega
                have hz1 : (S ((L r).drop k)).size = r.size - k := by rw [S_size, List.length_drop, L_size]
                have hne : (L r).take k ≠ [] := fun e => by rw [e] at hz0; rw [S_size] at hz0; simp at hz0; omega
                have hfold : ((L r).drop k).foldl (stepB ifs) (putS cur (S ((L r).take k)) false) = R := by
                  rw [← HRES.out, ← fold_plain ifs _ cur hne HALL.out, ← List.foldl_append, List.take_append_drop]
                have hfit2 : FitS (putS cur (S ((L r).take k)) false) (r.size - k) := FitS.put (HFIT.out.less (by omega)) (by omega)
                have HX0 := Lib.hid hx0
                have HFOLD := Lib.hid hfold
                have HFIT2 := Lib.hid hfit2
                have CPUT : Hid (∀ W, SpAt W g (S (whL ifs)) (S (otL ifs)) cur → Calls Tryz.prog 31 #[.pointer (some ⟨g, 0, none⟩), .string (r.extract 0 k), .bool false] W fun e w' => e = .returned (.tuple #[]) ∧ SpAt w' g (S (whL ifs)) (S (otL ifs)) (putS cur (S ((L r).take k)) false) ∧ Below g W w') := Lib.hid fun W hW => by
                  rw [HX0.out]
                  exact put_any cur _ false g _ _ W hW HFIT.out.len.1 (fun p hp => by have := HFIT.out.1 p hp; omega)
                have HX1 := Lib.hid hx1
                have HZ1 := Lib.hid hz1
                clear hx0 hx1 hz0 hz1 hne hfold hfit2
                go_wp2_with fail
                refine (CPUT.out _ (HSP2.out.below (below_drewN (Below.refl _ _) nq))).mono ?_
                rintro e w2 ⟨rfl, hsp3, hb3⟩
                have HB3 := Lib.hid ((below_drewN HB2.out nq).trans hb3)
                have HSP3 := Lib.hid hsp3
                clear hsp3 hb3
                go_wp2_with fail
                go_roundw
                case rel => exact ⟨r.extract k r.size, _, rfl, HSP3.out, by rw [HX1.out, HZ1.out]; exact HFIT2.out, by rw [HX1.out, L_S]; exact HFOLD.out, HB3.out⟩
                case measure => simp; omega
              · skip
                obtain rfl : k = 0 := by omega
                have i0 := run_idx (P := Tryz.prog) Tryz.underlying9 r (k := .i64) 0 0 rfl hpos
                rw [← HC.out] at i0
                have hx1 : r.extract 1 r.size = S ((L r).drop 1) := S_extract_from r 1
                have hz1 : (S ((L r).drop 1)).size = r.size - 1 := by rw [S_size, List.length_drop, L_size]
                have hd0 := drop_getD (L r) (show 0 < (L r).length from hpos)
                rw [List.drop_zero, ← HC.out] at hd0
                have HFOLD : Hid (((L r).drop 1).foldl (stepB ifs) (stepB ifs cur c) = R) := Lib.hid (by rw [← HRES.out, hd0]; rfl)
                have HFIT2 : Hid (FitS (stepB ifs cur c) (r.size - 1)) := Lib.hid (FitS.step (by rw [show r.size - 1 + 1 = r.size by omega]; exact HFIT.out) HHH.out)
                have HX1 := Lib.hid hx1
                have HZ1 := Lib.hid hz1
                clear hx1 hz1 hd0
                cases hop : cur.op with
                | true =>
                  have CE : Hid (∀ W, SpAt W g (S (whL ifs)) (S (otL ifs)) cur → Calls Tryz.prog 30 #[.pointer (some ⟨g, 0, none⟩), .bool false] W fun e w' => e = .returned (.tuple #[]) ∧ SpAt w' g (S (whL ifs)) (S (otL ifs)) (endS cur false) ∧ Below g W w') := Lib.hid fun W hW => end_any cur false g _ _ W hW HFIT.out.len.2
                  have HST : Hid (stepB ifs cur c = ⟨(endS cur false).out, (endS cur false).now, (endS cur false).op, true⟩) := Lib.hid (by rw [stepB, hh, hw, hop]; simp [endS, hop])
                  rw [hop] at c4
                  clear hh hw hop
                  go_wp2_with fail
                  go_quiet ((go_at_call 46; with_reducible first | exact Calls.quiet_of_same (IB1.out _) | exact Calls.quiet_of_same (IB2.out _)))
                  go_wp2_with (go_at_call 46; with_reducible refine (IB1.out _).mono ?_; rintro e w' ⟨rfl, rfl⟩)
                  refine (CE.out _ (HSP2.out.below (below_drewN (Below.refl _ _) nq))).mono ?_
                  rintro e w2 ⟨rfl, hsp3, hb3⟩
                  have HB3 := Lib.hid ((below_drewN HB2.out nq).trans hb3)
                  have HSP3 := Lib.hid (hsp3.due true)
                  obtain ⟨hg3, g4, g5, g6⟩ := hsp3.facts
                  clear hsp3 hb3
                  go_wp2
                  rw [HST.out] at HFIT2 HFOLD
                  go_roundw
                  case rel => exact ⟨r.extract 1 r.size, _, rfl, HSP3.out, by rw [HX1.out, HZ1.out]; exact HFIT2.out, by rw [HX1.out, L_S]; exact HFOLD.out, HB3.out.setCell (Nat.le_refl _) _⟩
                  case measure => simp; omega
                | false =>
                  have HST : Hid (stepB ifs cur c = cur) := Lib.hid (by rw [stepB, hh, hw, hop]; rfl)
                  rw [hop] at c4
                  clear hh hw hop
                  go_wp2_with fail
                  go_quiet ((go_at_call 46; with_reducible first | exact Calls.quiet_of_same (IB1.out _) | exact Calls.quiet_of_same (IB2.out _)))
                  go_wp2_with (go_at_call 46; with_reducible refine (IB1.out _).mono ?_; rintro e w' ⟨rfl, rfl⟩)
                  rw [HST.out] at HFIT2 HFOLD
                  go_roundw
                  case rel => exact ⟨r.extract 1 r.size, _, rfl, (HSP2.out.below (below_drewN (Below.refl _ _) nq)), by rw [HX1.out, HZ1.out]; exact HFIT2.out, by rw [HX1.out, L_S]; exact HFOLD.out, below_drewN HB2.out nq⟩
                  case measure => simp; omega
            | false =>
              rw [hw] at d1 d2
              simp only [Bool.and_true, Bool.not_true, Bool.not_false, Bool.and_false] at d1 d2
              have d3 : decide (0 ≤ v1) = false := by have := of_decide_eq_true d1; exact decide_eq_false (by omega)
              by_cases hk0 : 0 < k
              · clear hh hw
                go_wp2_with fail
                go_quiet ((go_at_call 46; with_reducible first | exact Calls.quiet_of_same (IB1.out _) | exact Calls.quiet_of_same (IB2.out _)))
                have hx0 : r.extract 0 k = S ((L r).take k) := S_extract_to r k
                have hx1 : r.extract k r.size = S ((L r).drop k) := S_extract_from r k
                have hz0 : (S ((L r).take k)).size = k := by rw [S_size, List.length_take, L_size]; omega
                have hz1 : (S ((L r).drop k)).size = r.size - k := by rw [S_size, List.length_drop, L_size]
                have hne : (L r).take k ≠ [] := fun e => by rw [e] at hz0; rw [S_size] at hz0; simp at hz0; omega
                have hfold : ((L r).drop k).foldl (stepB ifs) (putS cur (S ((L r).take k)) false) = R := by
                  rw [← HRES.out, ← fold_plain ifs _ cur hne HALL.out, ← List.foldl_append, List.take_append_drop]
                have hfit2 : FitS (putS cur (S ((L r).take k)) false) (r.size - k) := FitS.put (HFIT.out.less (by omega)) (by omega)
                have HX0 := Lib.hid hx0
                have HFOLD := Lib.hid hfold
                have HFIT2 := Lib.hid hfit2
                have CPUT : Hid (∀ W, SpAt W g (S (whL ifs)) (S (otL ifs)) cur → Calls Tryz.prog 31 #[.pointer (some ⟨g, 0, none⟩), .string (r.extract 0 k), .bool false] W fun e w' => e = .returned (.tuple #[]) ∧ SpAt w' g (S (whL ifs)) (S (otL ifs)) (putS cur (S ((L r).take k)) false) ∧ Below g W w') := Lib.hid fun W hW => by
                  rw [HX0.out]
                  exact put_any cur _ false g _ _ W hW HFIT.out.len.1 (fun p hp => by have := HFIT.out.1 p hp; omega)
                have HX1 := Lib.hid hx1
                have HZ1 := Lib.hid hz1
                clear hx0 hx1 hz0 hz1 hne hfold hfit2
                go_wp2_with fail
                refine (CPUT.out _ (HSP2.out.below (below_drewN (Below.refl _ _) nq))).mono ?_
                rintro e w2 ⟨rfl, hsp3, hb3⟩
                have HB3 := Lib.hid ((below_drewN HB2.out nq).trans hb3)
                have HSP3 := Lib.hid hsp3
                clear hsp3 hb3
                go_wp2_with fail
                go_roundw
                case rel => exact ⟨r.extract k r.size, _, rfl, HSP3.out, by rw [HX1.out, HZ1.out]; exact HFIT2.out, by rw [HX1.out, L_S]; exact HFOLD.out, HB3.out⟩
                case measure => simp; omega
              · skip
                obtain rfl : k = 0 := by omega
                have i0 := run_idx (P := Tryz.prog) Tryz.underlying9 r (k := .i64) 0 0 rfl hpos
                rw [← HC.out] at i0
                have hx1 : r.extract 1 r.size = S ((L r).drop 1) := S_extract_from r 1
                have hz1 : (S ((L r).drop 1)).size = r.size - 1 := by rw [S_size, List.length_drop, L_size]
                have hd0 := drop_getD (L r) (show 0 < (L r).length from hpos)
                rw [List.drop_zero, ← HC.out] at hd0
                have HFOLD : Hid (((L r).drop 1).foldl (stepB ifs) (stepB ifs cur c) = R) := Lib.hid (by rw [← HRES.out, hd0]; rfl)
                have HFIT2 : Hid (FitS (stepB ifs cur c) (r.size - 1)) := Lib.hid (FitS.step (by rw [show r.size - 1 + 1 = r.size by omega]; exact HFIT.out) HHH.out)
                have HX1 := Lib.hid hx1
                have HZ1 := Lib.hid hz1
                clear hx1 hz1 hd0
                cases hdu : cur.due with
                | true =>
                  have HST : Hid (stepB ifs cur c = ⟨cur.out, cur.now, cur.op, false⟩) := Lib.hid (by rw [stepB, hh, hw, hdu]; rfl)
                  rw [hdu] at c5
                  clear hh hw hdu
                  go_wp2_with fail
                  go_quiet ((go_at_call 46; with_reducible first | exact Calls.quiet_of_same (IB1.out _) | exact Calls.quiet_of_same (IB2.out _)))
                  go_wp2_with (go_at_call 46; with_reducible refine (IB1.out _).mono ?_; rintro e w' ⟨rfl, rfl⟩)
                  rw [HST.out] at HFIT2 HFOLD
                  go_roundw
                  case rel => exact ⟨r.extract 1 r.size, _, rfl, (HSP2.out.below (below_drewN (Below.refl _ _) nq)).due false, by rw [HX1.out, HZ1.out]; exact HFIT2.out, by rw [HX1.out, L_S]; exact HFOLD.out, (below_drewN HB2.out nq).setCell (Nat.le_refl _) _⟩
                  case measure => simp; omega
                | false =>
                  have CE : Hid (∀ W, SpAt W g (S (whL ifs)) (S (otL ifs)) cur → Calls Tryz.prog 30 #[.pointer (some ⟨g, 0, none⟩), .bool true] W fun e w' => e = .returned (.tuple #[]) ∧ SpAt w' g (S (whL ifs)) (S (otL ifs)) (endS cur true) ∧ Below g W w') := Lib.hid fun W hW => end_any cur true g _ _ W hW HFIT.out.len.2
                  have HST : Hid (stepB ifs cur c = endS cur true) := Lib.hid (by rw [stepB, hh, hw, hdu]; rfl)
                  rw [hdu] at c5
                  clear hh hw hdu
                  go_wp2_with fail
                  go_quiet ((go_at_call 46; with_reducible first | exact Calls.quiet_of_same (IB1.out _) | exact Calls.quiet_of_same (IB2.out _)))
                  go_wp2_with (go_at_call 46; with_reducible refine (IB1.out _).mono ?_; rintro e w' ⟨rfl, rfl⟩)
                  refine (CE.out _ (HSP2.out.below (below_drewN (Below.refl _ _) nq))).mono ?_
                  rintro e w2 ⟨rfl, hsp3, hb3⟩
                  have HB3 := Lib.hid ((below_drewN HB2.out nq).trans hb3)
                  have HSP3 := Lib.hid hsp3
                  clear hsp3 hb3
                  go_wp2
                  rw [HST.out] at HFIT2 HFOLD
                  go_roundw
                  case rel => exact ⟨r.extract 1 r.size, _, rfl, HSP3.out, by rw [HX1.out, HZ1.out]; exact HFIT2.out, by rw [HX1.out, L_S]; exact HFOLD.out, HB3.out⟩
                  case measure => simp; omega
        · have hkr : r.size ≤ k := by omega
          go_wp2_with fail
          go_quiet (fail)
          have hx0 : r.extract 0 k = S ((L r).take k) := S_extract_to r k
          have hx1 : r.extract k r.size = S ((L r).drop k) := S_extract_from r k
          have hz0 : (S ((L r).take k)).size = k := by rw [S_size, List.length_take, L_size]; omega
          have hz1 : (S ((L r).drop k)).size = r.size - k := by rw [S_size, List.length_drop, L_size]
          have hne : (L r).take k ≠ [] := fun e => by rw [e] at hz0; rw [S_size] at hz0; simp at hz0; omega
          have hfold : ((L r).drop k).foldl (stepB ifs) (putS cur (S ((L r).take k)) false) = R := by
            rw [← HRES.out, ← fold_plain ifs _ cur hne HALL.out, ← List.foldl_append, List.take_append_drop]
          have hfit2 : FitS (putS cur (S ((L r).take k)) false) (r.size - k) := FitS.put (HFIT.out.less (by omega)) (by omega)
          have HX0 := Lib.hid hx0
          have HFOLD := Lib.hid hfold
          have HFIT2 := Lib.hid hfit2
          have CPUT : Hid (∀ W, SpAt W g (S (whL ifs)) (S (otL ifs)) cur → Calls Tryz.prog 31 #[.pointer (some ⟨g, 0, none⟩), .string (r.extract 0 k), .bool false] W fun e w' => e = .returned (.tuple #[]) ∧ SpAt w' g (S (whL ifs)) (S (otL ifs)) (putS cur (S ((L r).take k)) false) ∧ Below g W w') := Lib.hid fun W hW => by
            rw [HX0.out]
            exact put_any cur _ false g _ _ W hW HFIT.out.len.1 (fun p hp => by have := HFIT.out.1 p hp; omega)
          have HX1 := Lib.hid hx1
          have HZ1 := Lib.hid hz1
          clear hx0 hx1 hz0 hz1 hne hfold hfit2
          go_wp2_with fail
          refine (CPUT.out _ (HSP2.out.below (below_drewN (Below.refl _ _) nq))).mono ?_
          rintro e w2 ⟨rfl, hsp3, hb3⟩
          have HB3 := Lib.hid ((below_drewN HB2.out nq).trans hb3)
          have HSP3 := Lib.hid hsp3
          clear hsp3 hb3
          go_wp2_with fail
          go_roundw
          case rel => exact ⟨r.extract k r.size, _, rfl, HSP3.out, by rw [HX1.out, HZ1.out]; exact HFIT2.out, by rw [HX1.out, L_S]; exact HFOLD.out, HB3.out⟩
          case measure => simp; omega
end Go.Proofs.YtjeinpadcknfbaaGreatDoor
/-
  A slice of bytes that the call itself makes and appends to: what it holds; append; as a string.
-/
namespace Go.Proofs.YtjeinpadcknfbaaGreatDoor
open Go.RowKit

/-- The slice value v, in blocks from B on, owns the bytes bl. -/
def OwnB (w : World) (B : Nat) (v : Value) (bl : List UInt8) : Prop := w.ownsRow B 5 1 v bl.length (bl.map fun u => Value.int .u8 ((u.toNat : Nat) : Int))

theorem OwnB.nil (w : World) (B : Nat) : OwnB w B (.slice none 0 0) [] := World.ownsRow_nil _ _ _ _

/-- Its form. -/
theorem OwnB.form {w : World} {B : Nat} {v : Value} {bl : List UInt8} (h : OwnB w B v bl) : (v = .slice none 0 0 ∧ bl = []) ∨ ∃ g cap, v = .slice (some ⟨g, 0, none⟩) bl.length cap ∧ B ≤ g ∧ g < w.heap.size ∧ bl.length ≤ cap ∧ BytesAt w g bl := by
  obtain ⟨h1, h2⟩ := h
  rcases h2 with ⟨h2, h3⟩ | ⟨g, cap, cur, rfl, hB, hg, hn, hc, hs, hx⟩
  · exact .inl ⟨h2, List.length_eq_zero_iff.1 h3⟩
  · refine .inr ⟨g, cap, rfl, hB, (Array.getElem?_eq_some_iff.1 hg).1, hn, fun j hj => ⟨?_, ?_⟩⟩
    · have h4 : (bl.map fun u => Value.int .u8 ((u.toNat : Nat) : Int))[j]? = some (.int .u8 ((bl.getD j 0).toNat : Nat)) := by simp [hj, List.getD]
      have h5 : (cur.toList.take (bl.length * 1))[j]? = cur[j]? := by rw [List.getElem?_take_of_lt (by omega)]; simp
      rw [← hx, h5] at h4
      simp [World.cell?, hg, h4]
    · simp [World.frozen?, hg]

theorem OwnB.below {w w' : World} {B : Nat} {v : Value} {bl : List UInt8} (h : OwnB w B v bl) (hb : Below w.heap.size w w') : OwnB w' B v bl := by
  refine ⟨h.1, ?_⟩
  rcases h.2 with h2 | ⟨g, cap, cur, hv, hB, hg, r⟩
  · exact .inl h2
  · exact .inr ⟨g, cap, cur, hv, hB, by rw [hb.block g (Array.getElem?_eq_some_iff.1 hg).1]; exact hg, r⟩

theorem OwnB.alloc {w : World} {B : Nat} {v : Value} {bl : List UInt8} (h : OwnB w B v bl) (o : Obj) : OwnB (w.alloc o) B v bl := World.ownsRow.alloc h o

/-- It has just been made out of bytes that are written out. -/
theorem OwnB.made {w : World} {B : Nat} (bl : List UInt8) (hB : B ≤ w.heap.size) (hl : bl.length ≤ maxLen) {n : Nat} (hn : n = bl.length) {c : Array Value} (hc : c = (bl.map fun u => Value.int .u8 ((u.toNat : Nat) : Int)).toArray) :
    OwnB (w.alloc (.cells c 5)) B (.slice (some ⟨w.heap.size, 0, none⟩) n n) bl := by
  subst hn hc
  refine ⟨by simp, .inr ⟨w.heap.size, bl.length, _, rfl, hB, heap_alloc_new w _, Nat.le_refl _, hl, by simp, ?_⟩⟩
  rw [List.take_of_length_le (by simp)]

theorem info8 : (Tryz.prog.info? 5).map (fun i => (i.zero, i.size, i.bytes)) = some (some (.int .u8 0), 1, 1) := by kernel_rfl

/-- append(out, b, ..): the bytes appended lie at the head of block g. -/
theorem append_bytes {w : World} {ops : Array Oper} {rest : List Oper} {o : Oper} {a : Act} {Q : Exit → Act → World → Prop} (hgd : o.guard = none) (s x : Operand)
    (ho : o.op = .call { callee := .builtin .append, args := #[s, x], argTypes := #[72, 72] }) {B : Nat} {v : Value} {bl : List UInt8} (hs : a.eval s = v) (hown : OwnB w B v bl)
    {g m c : Nat} (cs : List UInt8) (hx : a.eval x = .slice (some ⟨g, 0, none⟩) m c) (hl : cs.length = m) (hcell : ∀ j, j < m → w.cell? ⟨g, j, none⟩ = some (.int .u8 ((cs.getD j 0).toNat : Nat))) (hlen : bl.length + m ≤ 140737488355328) {w0 : World} (hb : Below B w0 w) (hB : B ≤ w.heap.size)
    (h : ∀ v' w', OwnB w' B v' (bl ++ cs) → Below B w0 w' → B ≤ w'.heap.size → wpList Tryz.prog ops Q rest (a.put o.dst v') w') : wpList Tryz.prog ops Q (o :: rest) a w := by
  obtain ⟨i0, hi, hz0, hz1, hz2⟩ := info_parts info8
  refine wpList_append_own w hgd s x 72 ho B 5 i0 (.int .u8 0) 1 1 Tryz.underlying72 hi hz0 hz1 hz2 rfl (by omega) v bl.length _ hs hown ⟨g, 0, none⟩ m c (cs.map fun u => Value.int .u8 ((u.toNat : Nat) : Int)) hx (by simp [hl])
    ?_ (by intro u hu; simp at hu; obtain ⟨y, _, rfl⟩ := hu; rfl) (by unfold maxLen; omega) (by omega) hB ?_
  · intro j u hj
    have hj' : j < cs.length := by
      rcases Nat.lt_or_ge j cs.length with h' | h'
      · exact h'
      · rw [List.getElem?_eq_none (by simpa using h')] at hj; cases hj
    rw [addr_add, Nat.zero_add, hcell j (by omega), ← hj]
    simp [hj', List.getD]
  · intro v' w' h2 h3 _
    refine h v' w' ?_ (hb.grown h3 hB fun k hk => (World.ownsRow.lt hown k hk).1) (Nat.le_trans hB h3.size)
    have : (bl ++ cs).length = bl.length + m := by simp [hl]
    unfold OwnB
    rw [this, List.map_append]
    exact h2

/-- string(out). -/
theorem OwnB.conv {w : World} {B : Nat} {v : Value} {bl : List UInt8} (h : OwnB w B v bl) : (convert 72 9 v).run Tryz.prog w = .ok (.string (S bl)) w := by
  rcases h.form with ⟨rfl, rfl⟩ | ⟨g, cap, rfl, _, _, _, hb⟩
  · exact run_convert_bytes_nil w _ _ Tryz.underlying72 Tryz.underlying5 _ _ _ Tryz.underlying9
  · rw [run_convK _ _ _ Tryz.underlying72 Tryz.underlying5 Tryz.underlying9, hb.bytes rfl]; rfl

theorem cell_new (w : World) (v : Value) (e : TypeId) : (w.alloc (.cells #[v] e)).cell? ⟨w.heap.size, 0, none⟩ = some v := by simp

/-- append(out, c). -/
theorem append_byte {w : World} {ops : Array Oper} {rest : List Oper} {o : Oper} {a : Act} {Q : Exit → Act → World → Prop} (hgd : o.guard = none) (s x : Operand)
    (ho : o.op = .call { callee := .builtin .append, args := #[s, x], argTypes := #[72, 72] }) {B : Nat} {v : Value} {bl : List UInt8} (hs : a.eval s = v) (hown : OwnB w B v bl)
    {g : Nat} (c : UInt8) (hx : a.eval x = .slice (some ⟨g, 0, none⟩) 1 1) (hcell : w.cell? ⟨g, 0, none⟩ = some (.int .u8 ((c.toNat : Nat) : Int))) (hlen : bl.length + 1 ≤ 140737488355328) {w0 : World} (hb : Below B w0 w) (hB : B ≤ w.heap.size)
    (h : ∀ v' w', OwnB w' B v' (bl ++ [c]) → Below B w0 w' → B ≤ w'.heap.size → wpList Tryz.prog ops Q rest (a.put o.dst v') w') : wpList Tryz.prog ops Q (o :: rest) a w :=
  append_bytes hgd s x ho hs hown [c] hx rfl (fun j hj => by obtain rfl : j = 0 := by omega
                                                             simpa using hcell) hlen hb hB h

/-- append(out, c), the new slice written out, and where it lies. -/
theorem append_byte_lies {w : World} {ops : Array Oper} {rest : List Oper} {o : Oper} {a : Act} {Q : Exit → Act → World → Prop} (hgd : o.guard = none) (s x : Operand)
    (ho : o.op = .call { callee := .builtin .append, args := #[s, x], argTypes := #[72, 72] }) {B : Nat} {v : Value} {bl : List UInt8} (hs : a.eval s = v) (hown : OwnB w B v bl)
    {g : Nat} (c : UInt8) (hx : a.eval x = .slice (some ⟨g, 0, none⟩) 1 1) (hcell : w.cell? ⟨g, 0, none⟩ = some (.int .u8 ((c.toNat : Nat) : Int))) (hlen : bl.length + 1 ≤ 140737488355328) (hB : B ≤ w.heap.size)
    (h : ∀ g cap w', OwnB w' B (.slice (some ⟨g, 0, none⟩) (bl.length + 1) cap) (bl ++ [c]) → w.grownBy w' v.ownBlock → (v.ownBlock = some g ∨ g = w.heap.size) → wpList Tryz.prog ops Q rest (a.put o.dst (.slice (some ⟨g, 0, none⟩) (bl.length + 1) cap)) w') : wpList Tryz.prog ops Q (o :: rest) a w := by
  obtain ⟨i0, hi, hz0, hz1, hz2⟩ := info_parts info8
  refine wpList_append_lies w hgd s x 72 ho B 5 i0 (.int .u8 0) 1 1 Tryz.underlying72 hi hz0 hz1 hz2 rfl (by omega) v bl.length _ hs hown ⟨g, 0, none⟩ 1 1 [.int .u8 ((c.toNat : Nat) : Int)] hx rfl
    ?_ (by intro u hu; simp at hu; subst hu; rfl) (by omega) (by unfold maxLen; omega) (by omega) hB _ rfl ?_
  · intro j u hj
    rcases j with _ | j
    · simp at hj; subst hj; rw [addr_add]; exact hcell
    · simp at hj
  · intro g' cap w' h2 h3 h4 _
    refine h g' cap w' ?_ h3 h4
    unfold OwnB
    rw [List.length_append, List.map_append]
    exact h2

theorem cells3 (w : World) (e : TypeId) (x y z : Int) (u v t : UInt8) (hx : x = (u.toNat : Nat)) (hy : y = (v.toNat : Nat)) (hz : z = (t.toNat : Nat)) : ∀ j, j < 3 →
    (w.alloc (.cells #[.int .u8 x, .int .u8 y, .int .u8 z] e)).cell? ⟨w.heap.size, j, none⟩ = some (.int .u8 ((([u, v, t] : List UInt8).getD j 0).toNat : Nat)) := by
  subst hx hy hz
  intro j hj
  match j, hj with
  | 0, _ => simp
  | 1, _ => simp
  | 2, _ => simp

end Go.Proofs.YtjeinpadcknfbaaGreatDoor
/-
  A strings.Builder of the call's own: what it holds; WriteString, String.
-/
namespace Go.Proofs.YtjeinpadcknfbaaGreatDoor
open Go.RowKit

def Tryz.bld_ren : Go.Shelf.Ren := ⟨fun | 166 => 44 | 240 => 75 | 276 => 95 | 169 => 45 | n => n,
  fun | 0 => 0 | 3 => 3 | 4 => 4 | 5 => 5 | 9 => 9 | 20 => 20 | 37 => 72 | 70 => 102 | 72 => 104 | 75 => 106 | 80 => 68 | 164 => 158 | n => n, fun n => n⟩

theorem Tryz.bldW : Go.Proofs.Lays.n166 Tryz.prog Tryz.bld_ren := {
  mixed := by kernel_rfl
  f166 := Tryz.func44.trans (congrArg some (by kernel_rfl))
  f240 := Tryz.func75.trans (congrArg some (by kernel_rfl))
  f276 := Tryz.func95.trans (congrArg some (by kernel_rfl))
  t0 := by kernel_rfl
  a0 := fun _ => by kernel_rfl
  z0 := fun _ => by kernel_rfl
  v0 := fun _ => by kernel_rfl
  t3 := by kernel_rfl
  a3 := fun _ => by kernel_rfl
  z3 := fun _ => by kernel_rfl
  v3 := fun _ => by kernel_rfl
  t4 := by kernel_rfl
  a4 := fun _ => by kernel_rfl
  z4 := fun _ => by kernel_rfl
  v4 := fun _ => by kernel_rfl
  t9 := by kernel_rfl
  a9 := fun _ => by kernel_rfl
  z9 := fun _ => by kernel_rfl
  v9 := fun _ => by kernel_rfl
  t20 := by kernel_rfl
  a20 := fun _ => by kernel_rfl
  z20 := fun _ => by kernel_rfl
  v20 := fun _ => by kernel_rfl
  t37 := by kernel_rfl
  a37 := fun _ => by kernel_rfl
  z37 := fun _ => by kernel_rfl
  v37 := fun _ => by kernel_rfl
  t70 := by kernel_rfl
  a70 := fun _ => by kernel_rfl
  z70 := fun _ => by kernel_rfl
  v70 := fun _ => by kernel_rfl
  t72 := by kernel_rfl
  a72 := fun _ => by kernel_rfl
  z72 := fun _ => by kernel_rfl
  v72 := fun _ => by kernel_rfl
  t75 := by kernel_rfl
  a75 := fun _ => by kernel_rfl
  z75 := fun _ => by kernel_rfl
  v75 := fun _ => by kernel_rfl
  t164 := by kernel_rfl
  a164 := fun _ => by kernel_rfl
  z164 := fun _ => by kernel_rfl
  v164 := fun _ => by kernel_rfl }

theorem Tryz.bldX : Builder.Extra Tryz.prog Tryz.bld_ren where
  sizeBuilder := by kernel_rfl
  liesBuilder := by kernel_rfl
  t5 := by kernel_rfl
  a5 := fun _ => by kernel_rfl
  z5 := fun _ => by kernel_rfl
  v5 := fun _ => by kernel_rfl
  infoByte := by kernel_rfl
  cellsByte := by kernel_rfl
  sizeByte := by kernel_rfl
  neB5 := by decide

/-- The builder in block b, one of the call's own (from B on), holds the bytes l. -/
def Bld (w : World) (B b : Nat) (l : List UInt8) : Prop := Lib.IsBuilder 104 5 B b (Lib.byteCells l) w

theorem Bld.below {w w' : World} {B b : Nat} {l : List UInt8} (h : Bld w B b l) (hb : Below w.heap.size w w') : Bld w' B b l := by
  have key : ∀ p, Lib.BuilderAt 104 5 B b p (Lib.byteCells l) w → Lib.BuilderAt 104 5 B b p (Lib.byteCells l) w' := by
    rintro p ⟨h1, v, h2, h3, h4⟩
    refine ⟨h1, v, by rw [hb.block b (Array.getElem?_eq_some_iff.1 h2).1]; exact h2, ⟨h3.1, ?_⟩, h4⟩
    rcases h3.2 with h5 | ⟨g, cap, cur, hv, hB, hg, r⟩
    · exact .inl h5
    · exact .inr ⟨g, cap, cur, hv, hB, by rw [hb.block g (Array.getElem?_eq_some_iff.1 hg).1]; exact hg, r⟩
  rcases h with h | h
  · exact .inl (key _ h)
  · exact .inr (key _ h)

theorem Bld.fresh (w : World) : Bld (w.alloc (.cells #[.pointer none, .slice none 0 0] 104)) w.heap.size w.heap.size [] := Lib.fresh_isBuilder _ _ w

theorem write_any (B b : Nat) (l : List UInt8) (s : ByteArray) (w : World) (h : Bld w B b l) (hlen : l.length + s.size ≤ 140737488355328) (hBw : B ≤ w.heap.size) :
    Calls Tryz.prog 44 #[.pointer (some ⟨b, 0, none⟩), .string s] w fun e w' => e = .returned (.tuple #[.int .i64 s.size, .nilIface]) ∧ Bld w' B b (l ++ L s) ∧ Below B w w' := by
  refine (Any.Builder_WriteString Tryz.bldW Tryz.bldX B b (Lib.byteCells l) s w h (by rw [Lib.byteCells_length]; exact hlen) hBw).mono fun e w' ⟨h1, h2, h3⟩ => ⟨h1, .inr ?_, h3⟩
  have : Lib.byteCells (l ++ L s) = Lib.byteCells l ++ Lib.strCells s := by rw [Lib.byteCells, List.map_append]; rfl
  rw [this]
  exact h2
end Go.Proofs.YtjeinpadcknfbaaGreatDoor
/-
  Split, Text: the walks.
-/
namespace Go.Proofs.YtjeinpadcknfbaaGreatDoor
open Go.RowKit

/-- A slice of fields of the call's own. -/
def OutAt (w : World) (B : Nat) (v : Value) (fs : List (List Pc)) : Prop := ∃ fv : List Fv, w.ownsRow B 70 1 v fv.length (fv.map (·.2)) ∧ FieldsAt w B fv ∧ fv.map (·.1) = fs
theorem OutAt.below {w w' : World} {B : Nat} {v : Value} {fs : List (List Pc)} (h : OutAt w B v fs) (hb : Below w.heap.size w w') : OutAt w' B v fs := by
  obtain ⟨fv, h1, h2, h3⟩ := h
  exact ⟨fv, own_below h1 hb, fun x hx => own_below (h2 x hx) hb, h3⟩
theorem OutAt.mono {w : World} {B B' : Nat} {v : Value} {fs : List (List Pc)} (h : OutAt w B v fs) (hB : B' ≤ B) : OutAt w B' v fs := by
  obtain ⟨fv, h1, h2, h3⟩ := h
  exact ⟨fv, own_from h1 hB, fun x hx => own_from (h2 x hx) hB, h3⟩
/-- A field of the slice. -/
theorem OutAt.field {w : World} {B : Nat} {v : Value} {fs : List (List Pc)} (h : OutAt w B v fs) {k : Nat} {f : List Pc} (hf : fs[k]? = some f) (i : Int) (hi : i = k) :
    ∃ b o x, (∀ w' : World, (Instr.indexAt 64 v (.int .i64 i)).run Tryz.prog w' = .ok (.pointer (some ⟨b, o, none⟩)) w') ∧ b < w.heap.size ∧ w.cell? ⟨b, o, none⟩ = some x ∧ w.ownsRow B 101 2 x f.length (f.flatMap pcC) := by
  obtain ⟨fv, h1, h2, h3⟩ := h
  have hk : k < fv.length := by
    have := (List.getElem?_eq_some_iff.1 hf).1
    rw [← h3, List.length_map] at this; exact this
  obtain ⟨g, cap, rfl, hB, hg, i0, hc⟩ := own_at (P := Tryz.prog) h1 64 Tryz.underlying64 (by kernel_rfl) hk i hi
  rw [Nat.mul_one] at i0
  have hx : fv[k]? = some fv[k] := List.getElem?_eq_getElem hk
  have hf2 : fv[k].1 = f := by
    rw [← h3, List.getElem?_map, hx] at hf
    simpa using hf
  refine ⟨g, k, fv[k].2, i0, hg, ?_, ?_⟩
  · rw [(hc k (by omega)).1, List.getElem?_map, hx]; rfl
  · have := h2 fv[k] (List.getElem_mem hk)
    rw [hf2] at this
    exact this
theorem OutAt.shape {w : World} {B : Nat} {v : Value} {fs : List (List Pc)} (h : OutAt w B v fs) : ∃ a c, v = .slice a fs.length c := by
  obtain ⟨fv, h1, h2, h3⟩ := h
  obtain ⟨a, c, e⟩ := own_shape h1
  exact ⟨a, c, by rw [e, ← h3, List.length_map]⟩

/-- A piece that came in. -/
theorem in_at {w : World} {B : Nat} {v : Value} {l : List In} (h : Sl w B 4 v l.length (l.flatMap inC)) {k : Nat} {x : In} (hx : l[k]? = some x) (i : Int) (hi : i = k) :
    ∃ b o, (∀ w' : World, (Instr.indexAt 66 v (.int .i64 i)).run Tryz.prog w' = .ok (.pointer (some ⟨b, o, none⟩)) w') ∧ b < B ∧ w.cell? ⟨b, o, none⟩ = some (.string x.t) ∧ w.cell? ⟨b, o + 1, none⟩ = some (.bool x.q) ∧ w.cell? ⟨b, o + 2, none⟩ = some (.bool x.s) ∧ w.cell? ⟨b, o + 3, none⟩ = some (.bool x.b) := by
  subst hi
  have hk := (List.getElem?_eq_some_iff.1 hx).1
  obtain ⟨a, cap, b, off, rfl, _, _, h1, h2, h3⟩ := h.open (P := Tryz.prog) 66 80 Tryz.underlying66 (by kernel_rfl)
  have g := flat_get inC 4 inC_len l k x hx
  refine ⟨b, off + k * 4, fun w' => h1 k w' hk, by omega, ?_, ?_, ?_, ?_⟩
  · rw [show off + k * 4 = off + (k * 4 + 0) by omega, h3 _ (by omega), g 0 (by omega)]; rfl
  · rw [show off + k * 4 + 1 = off + (k * 4 + 1) by omega, h3 _ (by omega), g 1 (by omega)]; rfl
  · rw [show off + k * 4 + 2 = off + (k * 4 + 2) by omega, h3 _ (by omega), g 2 (by omega)]; rfl
  · rw [show off + k * 4 + 3 = off + (k * 4 + 3) by omega, h3 _ (by omega), g 3 (by omega)]; rfl

/-- The state behind k pieces; what a size asks. -/
def stK (ifs : List UInt8) (l : List In) (k : Nat) : St := (l.take k).foldl (stepP ifs) St0
theorem stK_succ {ifs : List UInt8} {l : List In} {k : Nat} {x : In} (h : l[k]? = some x) : stK ifs l (k + 1) = stepP ifs (stK ifs l k) x := by
  obtain ⟨hk, rfl⟩ := List.getElem?_eq_some_iff.1 h
  unfold stK
  rw [List.take_succ_eq_append_getElem hk, List.foldl_append]; rfl
def FitL (ifs : List UInt8) (l : List In) : Prop := (∀ k x, l[k]? = some x → x.b = false → ∀ p ∈ (stK ifs l k).now, p.t.size + x.t.size ≤ 9223372036854775807) ∧ (l.map wt).sum ≤ 900000
theorem sum_take (f : In → Nat) : ∀ (l : List In) (k : Nat), ((l.take k).map f).sum ≤ (l.map f).sum
  | [], k => by simp
  | x :: l, 0 => by simp
  | x :: l, k + 1 => by
    have := sum_take f l k
    simp only [List.take_succ_cons, List.map_cons, List.sum_cons]
    omega
theorem cnt_fold2 (ifs : List UInt8) : ∀ (l : List In) (s : St), cnt (l.foldl (stepP ifs) s) ≤ cnt s + (l.map wt).sum
  | [], _ => by simp
  | x :: l, s => by
    have h1 := cnt_fold2 ifs l (stepP ifs s x)
    have h2 := cnt_piece ifs s x
    simp; omega
theorem FitL.cnt {ifs : List UInt8} {l : List In} (h : FitL ifs l) (k : Nat) : Go.Proofs.YtjeinpadcknfbaaGreatDoor.cnt (stK ifs l k) ≤ 900000 := by
  have h1 := cnt_fold2 ifs (l.take k) St0
  have h2 := sum_take wt l k
  have h3 := h.2
  have h4 : Go.Proofs.YtjeinpadcknfbaaGreatDoor.cnt St0 = 0 := rfl
  unfold stK
  omega
theorem FitL.sp {ifs : List UInt8} {l : List In} (h : FitL ifs l) {k : Nat} {x : In} (hx : l[k]? = some x) (hb : x.b = false) (hq : x.q = false) (hs : x.s = true) : FitS (stK ifs l k) x.t.size := by
  have h1 := stK_succ (ifs := ifs) hx
  have h4 : ((l.take (k + 1)).map wt).sum ≤ (l.map wt).sum := sum_take wt l (k + 1)
  have h5 := cnt_fold2 ifs (l.take k) St0
  have h6 : Go.Proofs.YtjeinpadcknfbaaGreatDoor.cnt St0 = 0 := rfl
  obtain ⟨hk, e⟩ := List.getElem?_eq_some_iff.1 hx
  rw [List.take_succ_eq_append_getElem hk, List.map_append, List.sum_append, e] at h4
  have h7 : wt x = 1 + x.t.size := by rw [wt, hs, hq, hb]; rfl
  have h8 := h.2
  simp only [List.map_cons, List.map_nil, List.sum_cons, List.sum_nil, h7] at h4
  refine ⟨h.1 k x hx hb, by omega, ?_⟩
  unfold stK
  omega

def SplitPost (fs : List (List Pc)) (w : World) (e : Ending) (w' : World) : Prop := Below w.heap.size w w' ∧ ∃ v, e = .returned v ∧ OutAt w' w.heap.size v fs

set_option maxHeartbeats 2000000 in
theorem Split_any (ifs : ByteArray) (l : List In) (v : Value) (w : World) (hl : Sl w w.heap.size 4 v l.length (l.flatMap inC)) (hi : ifs.size ≤ 9223372036854775807) (hf : FitL (L ifs) l) :
    Calls Tryz.prog 21 #[v, .string ifs] w (SplitPost (splitF (L ifs) l) w) := by
  obtain ⟨n, hnl⟩ : ∃ n, n = l.length := ⟨_, rfl⟩
  rw [← hnl] at hl
  have hnm := hl.len
  unfold maxLen at hnm
  obtain ⟨a, cap, rfl⟩ : ∃ a cap, v = .slice a n cap := by
    obtain ⟨_, a, cap, h, _⟩ := hl
    exact ⟨a, cap, h⟩
  have HL := Lib.hid hl
  have HN := Lib.hid hnl
  have HF := Lib.hid hf
  have CW := Lib.hid (fun W => whites_any ifs W hi)
  clear hl hnl hf
  go_enter Tryz.func21, Tryz.ntmps21
  go_wp2_with fail
  refine (CW.out _).mono ?_
  rintro e w1 ⟨rfl, hb1⟩
  have hB := (Blk.new w 76 (spC ⟨#[]⟩ ⟨#[]⟩ (.slice none 0 0) (.slice none 0 0) false false)).below hb1 (by simp)
  have hw1 : w.heap.size < w1.heap.size := by have := hb1.size; simp at this; omega
  have HSP0 : Hid (SpAt ((w1.setCell ⟨w.heap.size, 0, none⟩ (.string (S (whL (L ifs))))).setCell ⟨w.heap.size, 1, none⟩ (.string (S (otL (L ifs))))) w.heap.size (S (whL (L ifs))) (S (otL (L ifs))) St0) := Lib.hid
    ⟨_, _, [], ⟨(hB.put 0 _).put 1 _, World.ownsRow_nil _ _ _ _, World.ownsRow_nil _ _ _ _, fun x hx => by simp at hx, fun x hx => by simp at hx⟩, rfl⟩
  have HB0 : Hid (Below w.heap.size w ((w1.setCell ⟨w.heap.size, 0, none⟩ (.string (S (whL (L ifs))))).setCell ⟨w.heap.size, 1, none⟩ (.string (S (otL (L ifs)))))) := Lib.hid
    (((((Below.alloc (Below.refl _ _) (Nat.le_refl _) _).trans (hb1.mono (by simp)))).setCell (Nat.le_refl _) _).setCell (Nat.le_refl _) _)
  have z0 := hB.cell 0
  have z1 := hB.cell 1
  have y0 := hB.free 0
  have y1 := hB.free 1
  simp [spC] at z0 z1
  clear hb1 hB
  go_wp2_with fail
  go_loopw [23] (fun i wr => ∃ k : Nat, k ≤ n ∧ i = .int .i64 k ∧ SpAt wr w.heap.size (S (whL (L ifs))) (S (otL (L ifs))) (stK (L ifs) l k) ∧ Below w.heap.size w wr) (fun i _ => n - (intOf i).toNat)
  case atStart => exact ⟨0, Nat.zero_le _, rfl, HSP0.out, HB0.out⟩
  case round =>
    obtain ⟨k, hk, rfl, hsp, hb⟩ := hrel
    obtain ⟨wo, rfl⟩ : ∃ wo : World, wo = wr := ⟨_, rfl⟩
    clear z0 z1 y0 y1
    by_cases hlt : k < n
    · obtain ⟨x, hx⟩ : ∃ x, l[k]? = some x := ⟨_, List.getElem?_eq_getElem (by rw [← HN.out]; omega)⟩
      have hl1 := HL.out.below hb
      rw [HN.out] at hl1
      obtain ⟨b1, o1, i1, hb1, c1, c2, c3, c4⟩ := in_at hl1 hx (k : Int) rfl
      rw [← HN.out] at i1
      have hb1' : b1 < wo.heap.size := by have := hb.size; omega
      have hst := stK_succ (ifs := L ifs) hx
      have HFS := Lib.hid (fun h1 h2 h3 => HF.out.sp hx h1 h2 h3)
      have HFP := Lib.hid (HF.out.1 k x hx)
      have hcn := HF.out.cnt k
      have HX := Lib.hid hx
      obtain ⟨t, q, sp, bk⟩ := x
      obtain ⟨cur, hcur⟩ : ∃ cur, cur = stK (L ifs) l k := ⟨_, rfl⟩
      rw [← hcur] at hsp hst HFS HFP hcn
      have HST := Lib.hid hst
      have HSP := Lib.hid hsp
      have HB := Lib.hid hb
      have HCN := Lib.hid hcn
      clear hsp hst hb hcn hx hl1 hcur
      cases bk with
      | true =>
        have C : Hid (∀ W, SpAt W w.heap.size (S (whL (L ifs))) (S (otL (L ifs))) cur → Calls Tryz.prog 30 #[.pointer (some ⟨w.heap.size, 0, none⟩), .bool false] W fun e w' => e = .returned (.tuple #[]) ∧ SpAt w' w.heap.size (S (whL (L ifs))) (S (otL (L ifs))) (endS cur false) ∧ Below w.heap.size W w') := Lib.hid fun W hW => end_any cur false _ _ _ W hW (by have := HCN.out; unfold cnt at this; omega)
        go_wp2_with fail
        refine (C.out _ (HSP.out.below (Below.alloc (Below.refl _ _) (Nat.le_refl _) _))).mono ?_
        rintro e w2 ⟨rfl, hsp2, hb2⟩
        have HB2 := Lib.hid ((HB.out.alloc HB.out.size _).trans hb2)
        have HSP2 := Lib.hid hsp2
        clear hb2
        obtain ⟨hg3, g4, g5, g6⟩ := hsp2.facts
        clear hsp2
        go_wp2
        go_roundw
        case rel => exact ⟨k + 1, by omega, by go_num, by rw [HST.out]; exact HSP2.out.due false, HB2.out.setCell (Nat.le_refl _) _⟩
        case measure => simp [intOf]; omega
      | false =>
        cases q with
        | true =>
          have C : Hid (∀ W, SpAt W w.heap.size (S (whL (L ifs))) (S (otL (L ifs))) cur → Calls Tryz.prog 31 #[.pointer (some ⟨w.heap.size, 0, none⟩), .string t, .bool true] W fun e w' => e = .returned (.tuple #[]) ∧ SpAt w' w.heap.size (S (whL (L ifs))) (S (otL (L ifs))) (putS cur t true) ∧ Below w.heap.size W w') := Lib.hid fun W hW => put_any cur t true _ _ _ W hW (by have := HCN.out; unfold cnt at this; omega) (HFP.out rfl)
          go_wp2_with fail
          refine (C.out _ (HSP.out.below (Below.alloc (Below.refl _ _) (Nat.le_refl _) _))).mono ?_
          rintro e w2 ⟨rfl, hsp2, hb2⟩
          have HB2 := Lib.hid ((HB.out.alloc HB.out.size _).trans hb2)
          have HSP2 := Lib.hid hsp2
          clear hb2
          skip
          clear hsp2
          go_wp2
          go_roundw
          case rel => exact ⟨k + 1, by omega, by go_num, by rw [HST.out]; exact HSP2.out, HB2.out⟩
          case measure => simp [intOf]; omega
        | false =>
          cases sp with
          | true =>
            have C : Hid (∀ W, SpAt W w.heap.size (S (whL (L ifs))) (S (otL (L ifs))) cur → Calls Tryz.prog 32 #[.pointer (some ⟨w.heap.size, 0, none⟩), .string t] W fun e w' => e = .returned (.tuple #[]) ∧ SpAt w' w.heap.size (S (whL (L ifs))) (S (otL (L ifs))) ((L t).foldl (stepB (L ifs)) cur) ∧ Below w.heap.size W w') := Lib.hid fun W hW => split_any (L ifs) cur t _ W hW (HFS.out rfl rfl rfl)
            go_wp2_with fail
            refine (C.out _ (HSP.out.below (Below.alloc (Below.refl _ _) (Nat.le_refl _) _))).mono ?_
            rintro e w2 ⟨rfl, hsp2, hb2⟩
            have HB2 := Lib.hid ((HB.out.alloc HB.out.size _).trans hb2)
            have HSP2 := Lib.hid hsp2
            clear hb2
            skip
            clear hsp2
            go_wp2
            go_roundw
            case rel => exact ⟨k + 1, by omega, by go_num, by rw [HST.out]; exact HSP2.out, HB2.out⟩
            case measure => simp [intOf]; omega
          | false =>
            cases e0 : t.toList.isEmpty with
            | true =>
              have HST2 : Hid (stepP (L ifs) cur ⟨t, false, false, false⟩ = cur) := Lib.hid (by rw [isEmpty_L] at e0; simp [stepP, e0])
              go_wp2
              go_roundw
              case rel => exact ⟨k + 1, by omega, by go_num, by rw [HST.out, HST2.out]; exact HSP.out.below (Below.alloc (Below.refl _ _) (Nat.le_refl _) _), HB.out.alloc HB.out.size _⟩
              case measure => simp [intOf]; omega
            | false =>
              have HST2 : Hid (stepP (L ifs) cur ⟨t, false, false, false⟩ = putS cur t false) := Lib.hid (by rw [isEmpty_L] at e0; simp only [stepP, e0]; rfl)
              have C : Hid (∀ W, SpAt W w.heap.size (S (whL (L ifs))) (S (otL (L ifs))) cur → Calls Tryz.prog 31 #[.pointer (some ⟨w.heap.size, 0, none⟩), .string t, .bool false] W fun e w' => e = .returned (.tuple #[]) ∧ SpAt w' w.heap.size (S (whL (L ifs))) (S (otL (L ifs))) (putS cur t false) ∧ Below w.heap.size W w') := Lib.hid fun W hW => put_any cur t false _ _ _ W hW (by have := HCN.out; unfold cnt at this; omega) (HFP.out rfl)
              go_wp2_with fail
              refine (C.out _ (HSP.out.below (Below.alloc (Below.refl _ _) (Nat.le_refl _) _))).mono ?_
              rintro e w2 ⟨rfl, hsp2, hb2⟩
              have HB2 := Lib.hid ((HB.out.alloc HB.out.size _).trans hb2)
              have HSP2 := Lib.hid hsp2
              clear hb2
              rw [← HST2.out] at HSP2
              clear hsp2
              go_wp2
              go_roundw
              case rel => exact ⟨k + 1, by omega, by go_num, by rw [HST.out]; exact HSP2.out, HB2.out⟩
              case measure => simp [intOf]; omega
    · obtain rfl : k = n := by omega
      have hcn := HF.out.cnt k
      obtain ⟨cur, hcur⟩ : ∃ cur, cur = stK (L ifs) l k := ⟨_, rfl⟩
      rw [← hcur] at hsp hcn
      have HRES : Hid (splitF (L ifs) l = (endS cur false).out) := Lib.hid (by rw [hcur, stK, List.take_of_length_le (by rw [← HN.out]; omega)]; rfl)
      have HSP := Lib.hid hsp
      have HB := Lib.hid hb
      have HCN := Lib.hid hcn
      clear hsp hb hcn hcur
      have C : Hid (∀ W, SpAt W w.heap.size (S (whL (L ifs))) (S (otL (L ifs))) cur → Calls Tryz.prog 30 #[.pointer (some ⟨w.heap.size, 0, none⟩), .bool false] W fun e w' => e = .returned (.tuple #[]) ∧ SpAt w' w.heap.size (S (whL (L ifs))) (S (otL (L ifs))) (endS cur false) ∧ Below w.heap.size W w') := Lib.hid fun W hW => end_any cur false _ _ _ W hW (by have := HCN.out; unfold cnt at this; omega)
      go_wp2_with fail
      refine (C.out _ HSP.out).mono ?_
      rintro e w2 ⟨rfl, hsp2, hb2⟩
      have HB2 := Lib.hid (HB.out.trans hb2)
      obtain ⟨vo, vn, fv, hsp3, hout⟩ := hsp2
      have hc2 := hsp3.cells.1.2.2.1
      have HP : Hid (OutAt w2 w.heap.size vo (splitF (L ifs) l)) := Lib.hid (by
        rw [HRES.out]
        exact ⟨fv, own_from hsp3.out (by omega), fun x hx => own_from (hsp3.fields x hx) (by omega), hout⟩)
      clear hsp3 hout hb2
      go_wp2
      go_ret
      exact ⟨HB2.out, _, rfl, HP.out⟩
end Go.Proofs.YtjeinpadcknfbaaGreatDoor
namespace Go.Proofs.YtjeinpadcknfbaaGreatDoor
open Go.RowKit

def textL (f : List Pc) : List UInt8 := f.flatMap fun p => L p.t
theorem textL_snoc {l : List Pc} {k : Nat} {x : Pc} (h : l[k]? = some x) : textL (l.take (k + 1)) = textL (l.take k) ++ L x.t := by
  obtain ⟨hk, rfl⟩ := List.getElem?_eq_some_iff.1 h
  unfold textL
  rw [List.take_succ_eq_append_getElem hk, List.flatMap_append]
  simp
theorem textL_le (l : List Pc) (k : Nat) : (textL (l.take k)).length ≤ (textL l).length := by
  conv => rhs; rw [← List.take_append_drop k l]
  unfold textL
  rw [List.flatMap_append, List.length_append]
  omega
/-- A piece of a field. -/
theorem pc_atf {w : World} {B : Nat} {v : Value} {l : List Pc} (h : Sl w B 2 v l.length (l.flatMap pcC)) {k : Nat} {x : Pc} (hx : l[k]? = some x) (i : Int) (hi : i = k) :
    ∃ b o, (∀ w' : World, (Instr.indexAt 70 v (.int .i64 i)).run Tryz.prog w' = .ok (.pointer (some ⟨b, o, none⟩)) w') ∧ b < B ∧ w.cell? ⟨b, o, none⟩ = some (.string x.t) ∧ w.cell? ⟨b, o + 1, none⟩ = some (.bool x.q) := by
  subst hi
  have hk := (List.getElem?_eq_some_iff.1 hx).1
  obtain ⟨a, cap, b, off, rfl, _, _, h1, h2, h3⟩ := h.open (P := Tryz.prog) 70 101 Tryz.underlying70 (by kernel_rfl)
  have g := flat_get pcC 2 pcC_len l k x hx
  refine ⟨b, off + k * 2, fun w' => h1 k w' hk, by omega, ?_, ?_⟩
  · rw [show off + k * 2 = off + (k * 2 + 0) by omega, h3 _ (by omega), g 0 (by omega)]; rfl
  · rw [show off + k * 2 + 1 = off + (k * 2 + 1) by omega, h3 _ (by omega), g 1 (by omega)]; rfl

set_option maxHeartbeats 1000000 in
theorem text_any (f : List Pc) (v : Value) (w : World) (hl : Sl w w.heap.size 2 v f.length (f.flatMap pcC)) (hz : (textL f).length ≤ 140737488355328) :
    Calls Tryz.prog 28 #[v] w fun e w' => e = .returned (.string (S (textL f))) ∧ Below w.heap.size w w' := by
  obtain ⟨n, hnl⟩ : ∃ n, n = f.length := ⟨_, rfl⟩
  rw [← hnl] at hl
  have hnm := hl.len
  unfold maxLen at hnm
  obtain ⟨a, cap, rfl⟩ : ∃ a cap, v = .slice a n cap := by
    obtain ⟨_, a, cap, h, _⟩ := hl
    exact ⟨a, cap, h⟩
  have HL := Lib.hid hl
  have HN := Lib.hid hnl
  have HZ := Lib.hid hz
  clear hl hnl hz
  go_enter Tryz.func28, Tryz.ntmps28
  go_wp2_with fail
  go_loopw [8] (fun i wr => ∃ k : Nat, k ≤ n ∧ i = .int .i64 k ∧ Bld wr w.heap.size w.heap.size (textL (f.take k)) ∧ Below w.heap.size w wr ∧ w.heap.size < wr.heap.size) (fun i _ => n - (intOf i).toNat)
  case atStart => exact ⟨0, Nat.zero_le _, rfl, Bld.fresh w, Below.alloc (Below.refl _ _) (Nat.le_refl _) _, by simp⟩
  case round =>
    obtain ⟨k, hk, rfl, hbl, hb, hsz⟩ := hrel
    obtain ⟨wo, rfl⟩ : ∃ wo : World, wo = wr := ⟨_, rfl⟩
    by_cases hlt : k < n
    · obtain ⟨x, hx⟩ : ∃ x, f[k]? = some x := ⟨_, List.getElem?_eq_getElem (by rw [← HN.out]; omega)⟩
      have hl1 := HL.out.below hb
      rw [HN.out] at hl1
      obtain ⟨b1, o1, i1, hb1, c1, c2⟩ := pc_atf hl1 hx (k : Int) rfl
      rw [← HN.out] at i1
      have hb1' : b1 < wo.heap.size := by omega
      have hsn := textL_snoc hx
      have hle := textL_le f (k + 1)
      rw [hsn, List.length_append, L_size] at hle
      have HSN := Lib.hid hsn
      have hle2 := Nat.le_trans hle HZ.out
      obtain ⟨t, q⟩ := x
      have HB := Lib.hid hb
      have CWr := Lib.hid (write_any w.heap.size w.heap.size (textL (f.take k)) t (wo.alloc (.cells #[.string t, .bool q] 101)) (hbl.below (Below.alloc (Below.refl _ _) (Nat.le_refl _) _)) hle2 (by simp; omega))
      clear hl1 hx hsn hle hle2 hb hbl
      go_wp2_with fail
      refine CWr.out.mono ?_
      rintro e w2 ⟨rfl, hbl2, hb2⟩
      have HB2 := Lib.hid ((HB.out.alloc HB.out.size _).trans hb2)
      have HBL := Lib.hid hbl2
      have hsz2 : w.heap.size < w2.heap.size := by have := hb2.size; simp at this; omega
      clear hbl2 hb2
      go_wp2
      go_roundw
      case rel => exact ⟨k + 1, by omega, by go_num, by rw [HSN.out]; exact HBL.out, HB2.out, hsz2⟩
      case measure => simp [intOf]; omega
    · obtain rfl : k = n := by omega
      have HB := Lib.hid hb
      rw [List.take_of_length_le (by rw [← HN.out]; omega)] at hbl
      have CS := Lib.hid (Tryz.Builder_String_any w.heap.size w.heap.size (textL f) wo hbl hb.size)
      clear hbl hb
      go_wp2_with fail
      refine CS.out.mono ?_
      rintro e w2 ⟨rfl, hb2⟩
      go_wp2
      go_ret
      exact ⟨rfl, HB.out.trans hb2⟩
end Go.Proofs.YtjeinpadcknfbaaGreatDoor
