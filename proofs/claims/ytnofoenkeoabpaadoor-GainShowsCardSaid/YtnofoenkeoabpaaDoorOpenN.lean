/-
  Arguments that are slices of whole numbers or of numbers with a point; numbers with a point.
-/
import Derived.Test.YtnofoenkeoabpaaDoorOpen
import Derived.Deep.Slices
import Derived.ChangeArms
import Derived.Laws.Cover2
namespace Go.Proofs.YtnofoenkeoabpaaDoor
open Go.ChangeShapes Go.WideShapes Go.ChangeAt Go.RowKit Go.Deep

section
variable {H : Type} {enc : TypeId × Value → H} {P : Program} {W : World}

theorem trod_float {w : World} {base fuel : Nat} {spare : Nat → Bool} {held : Bool} {t : TypeId} {cs : List Value} {x : DataW H × List MemPlace} {k : FloatKind} (ht : P.underlying t = some (.float k)) (h : DataW.trod enc P w base spare held fuel t cs = some x) : ∃ n, cs = [.float k n] ∧ (Lit.float k n).wf = true := by
  cases fuel with
  | zero => simp [DataW.trod] at h
  | succ n =>
    unfold DataW.trod at h
    rw [ht] at h
    split at h <;> simp_all

theorem open_one {t e : TypeId} {v : Value} {d : DataW H} {p : List MemPlace} {α : Type} {g : α → Value} {okA : α → Prop} (ht : P.underlying t = some (.slice e)) (hc : P.cellsOf e = 1)
    (hone : ∀ (n : Nat) (u : Value) (y : DataW H × List MemPlace), DataW.trod enc P W 0 (fun _ => true) true n e [u] = some y → ∃ a : α, u = g a ∧ okA a) {r : Reach} {base : Nat}
    (hok : Value.okWide P W r base t v) (h : DataW.Trod enc P W 0 (fun _ => true) true t v d p) (hlt : ∀ x ∈ p, x.block < W.heap.size) :
    ∃ a n cap xs, v = .slice a n cap ∧ Elems W W.heap.size a n ((xs : List α).map g) ∧ (∀ x ∈ xs, okA x) ∧ (a = none → cap = 0) := by
  obtain ⟨a0, len, cap, rfl⟩ := okWide_slice ht hok
  obtain ⟨fuel, hf⟩ := h
  rcases open_slice1 ht hc hf with ⟨hcs, _⟩ | ⟨a, len', cap', m, n, V, D, Pl, hcs, _, hl, hm, hmm, hx, hi⟩
  · simp [Value.cells] at hcs
    obtain ⟨rfl, rfl, rfl⟩ := hcs
    exact ⟨none, 0, 0, [], rfl, ⟨rfl, Nat.zero_le _, .inl rfl⟩, by simp, fun _ => rfl⟩
  · simp [Value.cells] at hcs
    obtain ⟨rfl, rfl, rfl⟩ := hcs
    simp only [Prod.mk.injEq] at hx
    obtain ⟨rfl, rfl⟩ := hx
    simp only [if_true] at hmm
    replace hmm := hmm.symm
    subst hmm
    have key : ∀ k, k ≤ cap → ∃ xs : List α, xs.length = k ∧ (∀ i, i < k → W.cell? (a.add i) = (xs.map g)[i]?) ∧ ∀ x ∈ xs, okA x := by
      intro k
      induction k with
      | zero => exact fun _ => ⟨[], rfl, fun i hi => by omega, by simp⟩
      | succ k ih =>
        intro hk
        obtain ⟨xs, h1, h2, h3⟩ := ih (by omega)
        obtain ⟨c1, c2⟩ := hi k (by omega)
        obtain ⟨x, e1, e2⟩ := hone _ _ _ c2
        refine ⟨xs ++ [x], by simp [h1], fun i hik => ?_, fun y hy => ?_⟩
        · rcases Nat.lt_or_ge i k with hlt2 | hge
          · rw [h2 i hlt2, List.map_append, List.getElem?_append_left (by simp; omega)]
          · obtain rfl : i = k := by omega
            rw [c1, e1, List.map_append, List.getElem?_append_right (by simp; omega)]
            simp [h1]
        · rcases List.mem_append.1 hy with hy | hy
          · exact h3 y hy
          · simp at hy; subst hy; exact e2
    obtain ⟨xs, h1, h2, h3⟩ := key len hl
    refine ⟨some a, len, cap, xs, rfl, ⟨by simp [h1], by omega, ?_⟩, h3, fun e => by cases e⟩
    by_cases hl0 : len = 0
    · exact .inl hl0
    · obtain ⟨b, off, spot⟩ := a
      obtain ⟨c1, _⟩ := hi 0 (by omega)
      have hspot : spot = none := by simpa [Addr.add] using World.cell?_spot c1
      subst hspot
      refine .inr ⟨b, off, rfl, hlt (.cell b off) (List.mem_append_left _ (MemPlace.mem_row.2 ⟨0, by omega, by simp⟩)), fun i hil => ?_⟩
      rw [← addr_add, h2 i hil]

theorem open_ints2 {t e : TypeId} {v : Value} {d : DataW H} {p : List MemPlace} (ht : P.underlying t = some (.slice e)) (he : P.underlying e = some (.int .i64)) (hc : P.cellsOf e = 1) {r : Reach} {base : Nat}
    (hok : Value.okWide P W r base t v) (h : DataW.Trod enc P W 0 (fun _ => true) true t v d p) (hlt : ∀ x ∈ p, x.block < W.heap.size) :
    ∃ a n cap xs, v = .slice a n cap ∧ Elems W W.heap.size a n ((xs : List Int).map (Value.int .i64)) ∧ (∀ x ∈ xs, -9223372036854775808 ≤ x ∧ x ≤ 9223372036854775807) ∧ (a = none → cap = 0) :=
  open_one ht hc (fun n u y hy => by
    obtain ⟨x, e1, _, e3⟩ := DataW.trod_int he hy
    refine ⟨x, by simpa using e1, by simpa [Lit.wf, IntKind.min, IntKind.max, IntKind.signed, IntKind.bits] using e3⟩) hok h hlt
theorem open_flts {t e : TypeId} {v : Value} {d : DataW H} {p : List MemPlace} (ht : P.underlying t = some (.slice e)) (he : P.underlying e = some (.float .f64)) (hc : P.cellsOf e = 1) {r : Reach} {base : Nat}
    (hok : Value.okWide P W r base t v) (h : DataW.Trod enc P W 0 (fun _ => true) true t v d p) (hlt : ∀ x ∈ p, x.block < W.heap.size) :
    ∃ a n cap xs, v = .slice a n cap ∧ Elems W W.heap.size a n ((xs : List Nat).map (Value.float .f64)) ∧ (∀ x ∈ xs, x < 18446744073709551616) ∧ (a = none → cap = 0) :=
  open_one ht hc (fun n u y hy => by
    obtain ⟨x, e1, e3⟩ := trod_float he hy
    refine ⟨x, by simpa using e1, by simpa [Lit.wf] using e3⟩) hok h hlt
end
end Go.Proofs.YtnofoenkeoabpaaDoor
