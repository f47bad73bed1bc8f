/-
  The best way: what it is, plain; the code's Best and the document's.
-/
import Derived.Test.YtnofoenkeoabpaaDoorE8
namespace Go.Proofs.YtnofoenkeoabpaaDoor
open Go.RowKit

/-- The slice value v, in blocks from B on, owns the numbers rs. -/
def OwnF (w : World) (B : Nat) (v : Value) (rs : List Nat) : Prop := w.ownsRow B 22 1 v rs.length (rs.map flo)
theorem OwnF.nil (w : World) (B : Nat) : OwnF w B (.slice none 0 0) [] := World.ownsRow_nil _ _ _ _
theorem OwnF.below {w w' : World} {B : Nat} {v : Value} {rs : List Nat} (h : OwnF w B v rs) (hb : Below w.heap.size w w') : OwnF w' B v rs := by
  refine ⟨h.1, ?_⟩
  rcases h.2 with h2 | ⟨g, cap, cur, hv, hB, hg, r⟩
  · exact .inl h2
  · exact .inr ⟨g, cap, cur, hv, hB, by rw [hb.block g (Array.getElem?_eq_some_iff.1 hg).1]; exact hg, r⟩
theorem OwnF.alloc {w : World} {B : Nat} {v : Value} {rs : List Nat} (h : OwnF w B v rs) (o : Obj) : OwnF (w.alloc o) B v rs := World.ownsRow.alloc h o
theorem OwnF.elems {w : World} {B : Nat} {v : Value} {rs : List Nat} (h : OwnF w B v rs) (hl : rs.length ≤ maxLen) :
    ∃ a cap, v = .slice a rs.length cap ∧ Elems w w.heap.size a rs.length (rs.map flo) := by
  obtain ⟨h1, h2⟩ := h
  rcases h2 with ⟨rfl, h3⟩ | ⟨g, cap, cur, rfl, hB, hg, hn, hc, hs, hx⟩
  · rw [h3]; exact ⟨none, 0, rfl, by simpa using h3, Nat.zero_le _, .inl rfl⟩
  · have hg' := (Array.getElem?_eq_some_iff.1 hg).1
    refine ⟨some ⟨g, 0, none⟩, cap, rfl, by simp, hl, .inr ⟨g, 0, rfl, hg', fun i hi => ?_⟩⟩
    have h5 : (cur.toList.take (rs.length * 1))[i]? = cur[i]? := by rw [List.getElem?_take_of_lt (by omega)]; simp
    rw [← hx, h5]
    have : i < cur.size := by omega
    simp [World.cell?, hg, this]
theorem infoF : (Tryd.prog.info? 22).map (fun i => (i.zero, i.size, i.bytes)) = some (some (.float .f64 0), 1, 8) := by kernel_rfl
theorem append_float {w : World} {ops : Array Oper} {rest : List Oper} {o : Oper} {a : Act} {Q : Exit → Act → World → Prop} (hgd : o.guard = none) (s x : Operand)
    (ho : o.op = .call { callee := .builtin .append, args := #[s, x], argTypes := #[38, 38] }) {B : Nat} {v : Value} {rs : List Nat} (hs : a.eval s = v) (hown : OwnF w B v rs)
    {g : Nat} (c : Nat) (hx : a.eval x = .slice (some ⟨g, 0, none⟩) 1 1) (hcell : w.cell? ⟨g, 0, none⟩ = some (.float .f64 c)) (hlen : rs.length + 1 ≤ 1000000000000) {w0 : World} (hb : Below B w0 w) (hB : B ≤ w.heap.size)
    (h : ∀ v' w', OwnF w' B v' (rs ++ [c]) → Below B w0 w' → B ≤ w'.heap.size → wpList Tryd.prog ops Q rest (a.put o.dst v') w') : wpList Tryd.prog ops Q (o :: rest) a w := by
  obtain ⟨i0, hi, hz0, hz1, hz2⟩ := info_parts infoF
  refine wpList_append_own w hgd s x 38 ho B 22 i0 (.float .f64 0) 1 8 Tryd.underlying38 hi hz0 hz1 hz2 rfl (by omega) v rs.length _ hs hown ⟨g, 0, none⟩ 1 1 [flo c] hx (by simp)
    ?_ (by intro u hu; simp at hu; subst hu; rfl) (by unfold maxLen; omega) (by omega) hB ?_
  · intro j u hj
    have hj' : j = 0 := by
      rcases j with _ | j
      · rfl
      · simp at hj
    subst hj'
    simp at hj
    subst hj
    rw [addr_add]
    exact hcell
  · intro v' w' h2 h3 _
    refine h v' w' ?_ (hb.grown h3 hB fun k hk => (World.ownsRow.lt hown k hk).1) (Nat.le_trans hB h3.size)
    unfold OwnF
    rw [List.length_append, List.map_append]
    exact h2

/-! ### plain -/
def CostsR (ws : List Int) (l : List UInt8) (rs : List Nat) : Prop := rs.length = ws.length ∧ ∀ (k : Nat) way r, ws[k]? = some way → rs[k]? = some r → CostR way l r
theorem costs_nil (l : List UInt8) : CostsR [] l [] := ⟨rfl, fun k _ _ h => by simp at h⟩
theorem costs_snoc {ws : List Int} {l : List UInt8} {rs : List Nat} {k : Nat} {way : Int} {r : Nat} (h : CostsR (ws.take k) l rs) (hw : ws[k]? = some way) (hr : CostR way l r) : CostsR (ws.take (k + 1)) l (rs ++ [r]) := by
  have hk := (List.getElem?_eq_some_iff.1 hw).1
  have e : ws.take (k + 1) = ws.take k ++ [way] := by rw [List.take_add_one, hw]; rfl
  have hlk : (ws.take k).length = k := by rw [List.length_take]; omega
  have hlr : rs.length = k := by rw [h.1, hlk]
  rw [e]
  refine ⟨by simp [h.1], fun j w' r' hj1 hj2 => ?_⟩
  rcases Nat.lt_or_ge j k with hjk | hjk
  · rw [List.getElem?_append_left (by omega)] at hj1 hj2
    exact h.2 j w' r' hj1 hj2
  · rw [List.getElem?_append_right (by omega)] at hj1 hj2
    rw [hlk] at hj1
    rw [hlr] at hj2
    rcases Nat.eq_zero_or_pos (j - k) with h0 | h0
    · rw [h0] at hj1 hj2
      simp at hj1 hj2
      rw [← hj1, ← hj2]; exact hr
    · rw [List.getElem?_eq_none (by simp; omega)] at hj1; cases hj1
theorem CostsR.lt {ws : List Int} {l : List UInt8} {rs : List Nat} (h : CostsR ws l rs) : ∀ r ∈ rs, r < 18446744073709551616 := by
  intro r hr
  obtain ⟨k, hk, e⟩ := List.getElem_of_mem hr
  exact (h.2 k (ws[k]'(by rw [← h.1]; exact hk)) r (List.getElem?_eq_getElem _) (by rw [List.getElem?_eq_getElem hk, e])).1

def bestV (ws : List Int) (l : List UInt8) (rs : List Nat) (i : Int) : Value :=
  if i < 0 then .tuple #[.int .i64 0, .int .i64 12] else if l ≠ [] ∧ 5 ≤ clsN (rs.getD i.toNat 0) then .tuple #[.int .i64 0, .int .i64 43] else .tuple #[.int .i64 (ws.getD i.toNat 0), .int .i64 0]
def BestR (ws : List Int) (l : List UInt8) (v : Value) : Prop := ∃ rs i, CostsR ws l rs ∧ Lst rs i ∧ v = bestV ws l rs i

theorem cls_inf (x : Nat) : decide (5 ≤ clsN x) = (infB x || isn x) := by
  cases hn : isn x with
  | true =>
    unfold clsN
    rw [if_pos hn]
    simp
  | false =>
    have h1 : infB x = gt64 x MAXF := rfl
    have hle := isn_le hn
    rw [h1, gt64_eq hn isn_max, ordI_max]
    unfold clsN ordI
    rw [hn]
    unfold INFR at hle ⊢
    generalize rung x = r at hle ⊢
    rw [Bool.or_false]
    apply decide_eq_decide.2
    simp only [Bool.false_eq_true, if_false]
    cases sgn x
    · simp only [Bool.false_eq_true, if_false]
      (repeat' split) <;> omega
    · simp only [if_true]
      (repeat' split) <;> omega
theorem cls_rank {x : Nat} (h : x < 18446744073709551616) : 5 ≤ clsN x ↔ 18442240474082181120 ≤ rankN x := by
  cases hn : isn x with
  | true =>
    have e1 : clsN x = 6 := by unfold clsN; rw [if_pos hn]
    have e2 : rankN x = 18446744073709551615 := by unfold rankN; rw [if_pos hn]
    rw [e1, e2]; omega
  | false =>
    rw [rank_eq h hn]
    have hle := isn_le hn
    unfold clsN
    rw [hn]
    unfold INFR at hle ⊢
    generalize rung x = r at hle ⊢
    simp only [Bool.false_eq_true, if_false]
    cases sgn x
    · simp only [Bool.false_eq_true, if_false]
      (repeat' split) <;> omega
    · simp only [if_true]
      (repeat' split) <;> omega
theorem Lst.congr {rs ss : List Nat} (hl : rs.length = ss.length) (h : ∀ (k : Nat) r s, rs[k]? = some r → ss[k]? = some s → rankN r = rankN s) {i : Int} (hi : Lst rs i) : Lst ss i := by
  have other : ∀ (k : Nat) s, ss[k]? = some s → ∃ r, rs[k]? = some r ∧ rankN r = rankN s := fun k s hs => by
    have hk := (List.getElem?_eq_some_iff.1 hs).1
    exact ⟨_, List.getElem?_eq_getElem (by rw [hl]; exact hk), h k _ _ (List.getElem?_eq_getElem _) hs⟩
  rcases hi with ⟨e1, rfl⟩ | ⟨k, x, rfl, kx, ka, kb⟩
  · left
    subst e1
    exact ⟨List.length_eq_zero_iff.1 hl.symm, rfl⟩
  · right
    have hk := (List.getElem?_eq_some_iff.1 kx).1
    obtain ⟨y, hy⟩ : ∃ y, ss[k]? = some y := ⟨_, List.getElem?_eq_getElem (by rw [← hl]; exact hk)⟩
    have hxy := h k x y kx hy
    refine ⟨k, y, rfl, hy, fun j s hs => ?_, fun j s hj hs => ?_⟩
    · obtain ⟨r, h1, h2⟩ := other j s hs
      have := ka j r h1
      omega
    · obtain ⟨r, h1, h2⟩ := other j s hs
      have := kb j r hj h1
      omega
theorem BestR.unique {ws : List Int} {l : List UInt8} {v v' : Value} (h1 : BestR ws l v) (h2 : BestR ws l v') : v = v' := by
  obtain ⟨rs, i, c1, l1, rfl⟩ := h1
  obtain ⟨ss, j, c2, l2, rfl⟩ := h2
  have hr : ∀ (k : Nat) r s, rs[k]? = some r → ss[k]? = some s → rankN r = rankN s := fun k r s h1 h2 => by
    have hk := (List.getElem?_eq_some_iff.1 h1).1
    have hw : ws[k]? = some (ws[k]'(by rw [← c1.1]; exact hk)) := List.getElem?_eq_getElem _
    exact (c1.2 k _ r hw h1).rank (c2.2 k _ s hw h2)
  have hl : rs.length = ss.length := by rw [c1.1, c2.1]
  have e := (l1.congr hl hr).unique l2
  subst e
  unfold bestV
  rcases l1 with ⟨e1, rfl⟩ | ⟨k, x, rfl, kx, ka, kb⟩
  · rfl
  · have hk := (List.getElem?_eq_some_iff.1 kx).1
    obtain ⟨y, hy⟩ : ∃ y, ss[k]? = some y := ⟨_, List.getElem?_eq_getElem (by rw [← hl]; exact hk)⟩
    have hxy := hr k x y kx hy
    have e1 : rs.getD (k : Int).toNat 0 = x := by simp [List.getD, kx]
    have e2 : ss.getD (k : Int).toNat 0 = y := by simp [List.getD, hy]
    rw [e1, e2]
    have hc : 5 ≤ clsN x ↔ 5 ≤ clsN y := by
      rw [cls_rank (c1.lt x (List.mem_of_getElem? kx)), cls_rank (c2.lt y (List.mem_of_getElem? hy)), hxy]
    simp only [hc]
end Go.Proofs.YtnofoenkeoabpaaDoor
