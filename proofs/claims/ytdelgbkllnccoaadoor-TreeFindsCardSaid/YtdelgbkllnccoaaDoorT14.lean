/-
  A tree that came in: its items.
-/
import Derived.Test.YtdelgbkllnccoaaDoorT5
import Derived.Test.YtdelgbkllnccoaaDoorSlIn
namespace Go.Proofs.YtdelgbkllnccoaaDoor
open Go.ChangeShapes Go.WideShapes Go.ChangeAt Go.RowKit Go.Deep

theorem open_its {H : Type} {enc : TypeId × Value → H} {W : World} {v : Value} {d : DataW H} {p : List MemPlace} {r : Reach} {base : Nat} (hok : Value.okWide Tryd.prog W r base 23 v) (h : DataW.Trod enc Tryd.prog W 0 (fun _ => true) true 23 v d p) (hlt : ∀ x ∈ p, x.block < W.heap.size)
    (hz : ∀ n ∈ d.weights Tryd.prog 23, n ≤ reachBytes) :
    ∃ l : List It, Tr W W.heap.size v l ∧ ∀ x ∈ l, x.p.size ≤ 140737488355327 ∧ x.d.size ≤ 140737488355327 ∧ x.s.size ≤ 140737488355327 := by
  obtain ⟨a, n, cap, rfl, hc, hm, hbz, h0⟩ := open_structs_z Tryd.underlying23 Tryd.underlying44 (by kernel_rfl) (by kernel_rfl) (by decide) hok h hlt hz
  have hr : reachBytes ≤ 140737488355327 := by decide
  rcases h0 with rfl | ⟨b, off, rfl, hb, hcell⟩
  · exact ⟨[], ⟨rfl, _, _, rfl, hc, hm, .inl rfl⟩, by simp⟩
  · obtain ⟨l, hl, hq⟩ := list_of (Q := fun i (x : It) => (W.cell? ⟨b, off + (i * 5 + 0), none⟩ = some (.string x.p) ∧ W.cell? ⟨b, off + (i * 5 + 1), none⟩ = some (.int .i64 x.k) ∧ W.cell? ⟨b, off + (i * 5 + 2), none⟩ = some (.int .i64 x.m) ∧ W.cell? ⟨b, off + (i * 5 + 3), none⟩ = some (.string x.d) ∧ W.cell? ⟨b, off + (i * 5 + 4), none⟩ = some (.string x.s)) ∧ x.p.size ≤ reachBytes ∧ x.d.size ≤ reachBytes ∧ x.s.size ≤ reachBytes) n fun i hi => by
      obtain ⟨u0, y0, k0, hc0, ht0, hw0⟩ := hcell i hi 0 _ rfl
      obtain ⟨u1, y1, k1, hc1, ht1, _⟩ := hcell i hi 1 _ rfl
      obtain ⟨u2, y2, k2, hc2, ht2, _⟩ := hcell i hi 2 _ rfl
      obtain ⟨u3, y3, k3, hc3, ht3, hw3⟩ := hcell i hi 3 _ rfl
      obtain ⟨u4, y4, k4, hc4, ht4, hw4⟩ := hcell i hi 4 _ rfl
      obtain ⟨s0, hs0, hy0, _⟩ := DataW.trod_string Tryd.underlying9 ht0
      obtain ⟨q1, hq1, _⟩ := DataW.trod_int Tryd.underlying3 ht1
      obtain ⟨q2, hq2, _⟩ := DataW.trod_int Tryd.underlying3 ht2
      obtain ⟨s3, hs3, hy3, _⟩ := DataW.trod_string Tryd.underlying9 ht3
      obtain ⟨s4, hs4, hy4, _⟩ := DataW.trod_string Tryd.underlying9 ht4
      simp at hs0 hq1 hq2 hs3 hs4
      subst hs0 hq1 hq2 hs3 hs4 hy0 hy3 hy4
      exact ⟨⟨s0, q1, q2, s3, s4⟩, ⟨hc0, hc1, hc2, hc3, hc4⟩, hw0 s0.size (by simp [DataW.weights]), hw3 s3.size (by simp [DataW.weights]), hw4 s4.size (by simp [DataW.weights])⟩
    subst hl
    refine ⟨l, sl_of itC itC_len (by decide) rfl hc hm hb fun i x hx j hj => ?_, fun p hp => ?_⟩
    · obtain ⟨⟨h1, h2, h3, h4, h5⟩, _⟩ := hq i x hx
      match j, hj with
      | 0, _ => exact h1
      | 1, _ => exact h2
      | 2, _ => exact h3
      | 3, _ => exact h4
      | 4, _ => exact h5
    · obtain ⟨i, hi, e⟩ := List.getElem_of_mem hp
      obtain ⟨_, h1, h2, h3⟩ := hq i p (by rw [List.getElem?_eq_getElem hi, e])
      exact ⟨Nat.le_trans h1 hr, Nat.le_trans h2 hr, Nat.le_trans h3 hr⟩
end Go.Proofs.YtdelgbkllnccoaaDoor
