/-
  Pieces that came in; the walk of FieldSplits.
-/
import Derived.Test.YtlehofcgkmhgaaaF17
import Derived.Test.YtlehofcgkmhgaaaSlIn
namespace Go.Proofs.Ytlehofcgkmhgaaa
open Go.ChangeShapes Go.WideShapes Go.ChangeAt Go.RowKit Go.Deep

theorem open_ins {H : Type} {enc : TypeId × Value → H} {W : World} {v : Value} {d : DataW H} {p : List MemPlace} {r : Reach} {base : Nat} (hok : Value.okWide Try.prog W r base 24 v) (h : DataW.Trod enc Try.prog W 0 (fun _ => true) true 24 v d p) (hlt : ∀ x ∈ p, x.block < W.heap.size)
    (hz : ∀ n ∈ d.weights Try.prog 24, n ≤ reachBytes) :
    ∃ l : List In, Sl W W.heap.size 4 v l.length (l.flatMap inC) ∧ (∀ p ∈ l, p.t.size ≤ 140737488355328) ∧ l.length * 24 ≤ 140737488355328 := by
  obtain ⟨a, n, cap, rfl, hc, hm, hbz, h0⟩ := open_structs_z Try.underlying24 Try.underlying26 (by kernel_rfl) (by kernel_rfl) (by decide) hok h hlt hz
  have hb24 : Try.prog.bytesOf 26 = 24 := by kernel_rfl
  have hr : reachBytes ≤ 140737488355328 := by decide
  rw [hb24] at hbz
  rcases h0 with rfl | ⟨b, off, rfl, hb, hcell⟩
  · exact ⟨[], ⟨rfl, _, _, rfl, hc, hm, .inl rfl⟩, by simp, by simp⟩
  · obtain ⟨l, hl, hq⟩ := list_of (Q := fun i (x : In) => (W.cell? ⟨b, off + (i * 4 + 0), none⟩ = some (.string x.t) ∧ W.cell? ⟨b, off + (i * 4 + 1), none⟩ = some (.bool x.q) ∧ W.cell? ⟨b, off + (i * 4 + 2), none⟩ = some (.bool x.s) ∧ W.cell? ⟨b, off + (i * 4 + 3), none⟩ = some (.bool x.b)) ∧ x.t.size ≤ reachBytes) n fun i hi => by
      obtain ⟨u0, y0, k0, hc0, ht0, hw0⟩ := hcell i hi 0 _ rfl
      obtain ⟨u1, y1, k1, hc1, ht1, _⟩ := hcell i hi 1 _ rfl
      obtain ⟨u2, y2, k2, hc2, ht2, _⟩ := hcell i hi 2 _ rfl
      obtain ⟨u3, y3, k3, hc3, ht3, _⟩ := hcell i hi 3 _ rfl
      obtain ⟨s, hs, hy, _⟩ := DataW.trod_string Try.underlying9 ht0
      obtain ⟨q1, hq1, _⟩ := DataW.trod_bool Try.underlying4 ht1
      obtain ⟨q2, hq2, _⟩ := DataW.trod_bool Try.underlying4 ht2
      obtain ⟨q3, hq3, _⟩ := DataW.trod_bool Try.underlying4 ht3
      simp at hs hq1 hq2 hq3
      subst hs hq1 hq2 hq3 hy
      exact ⟨⟨s, q1, q2, q3⟩, ⟨hc0, hc1, hc2, hc3⟩, hw0 s.size (by simp [DataW.weights])⟩
    subst hl
    refine ⟨l, sl_of inC inC_len (by decide) rfl hc hm hb fun i x hx j hj => ?_, fun p hp => ?_, by omega⟩
    · obtain ⟨⟨h1, h2, h3, h4⟩, _⟩ := hq i x hx
      match j, hj with
      | 0, _ => exact h1
      | 1, _ => exact h2
      | 2, _ => exact h3
      | 3, _ => exact h4
    · obtain ⟨i, hi, e⟩ := List.getElem_of_mem hp
      exact Nat.le_trans (hq i p (by rw [List.getElem?_eq_getElem hi, e])).2 hr

theorem split_texts (ifs : List UInt8) (l : List In) : ∀ f ∈ splitF ifs l, (textL f).length ≤ szs l := by
  -- what is put lies among the pieces
  have key : ∀ (s : St) (m : Nat), (∀ f ∈ s.out, (textL f).length ≤ m) → (textL s.now).length ≤ m → ∀ f ∈ (endS s false).out, (textL f).length ≤ m := by
    intro s m h1 h2 f hf
    unfold endS at hf
    split at hf
    · rcases List.mem_append.1 hf with hf | hf
      · exact h1 f hf
      · simp at hf; subst hf; exact h2
    · exact h1 f hf
  have stepB1 : ∀ (c : UInt8) (s : St) (m : Nat), (∀ f ∈ s.out, (textL f).length ≤ m) ∧ (textL s.now).length ≤ m → (∀ f ∈ (stepB ifs s c).out, (textL f).length ≤ m + 1) ∧ (textL (stepB ifs s c).now).length ≤ m + 1 := by
    intro c s m ⟨h1, h2⟩
    refine ⟨fun f hf => ?_, Nat.le_trans (text_stepB ifs s c) (by omega)⟩
    have two : f ∈ s.out ∨ f = s.now := by
      unfold stepB at hf
      split at hf
      · split at hf
        · split at hf
          · rcases List.mem_append.1 hf with hf | hf
            · exact .inl hf
            · simp at hf; exact .inr hf
          · exact .inl hf
        · split at hf
          · exact .inl hf
          · unfold endS at hf
            split at hf
            · rcases List.mem_append.1 hf with hf | hf
              · exact .inl hf
              · simp at hf; exact .inr hf
            · exact .inl hf
      · exact .inl hf
    rcases two with h | rfl
    · have := h1 f h; omega
    · omega
  have foldB : ∀ (t : List UInt8) (s : St) (m : Nat), (∀ f ∈ s.out, (textL f).length ≤ m) ∧ (textL s.now).length ≤ m → (∀ f ∈ (t.foldl (stepB ifs) s).out, (textL f).length ≤ m + t.length) ∧ (textL (t.foldl (stepB ifs) s).now).length ≤ m + t.length := by
    intro t
    induction t with
    | nil => intro s m h; exact h
    | cons c t ih =>
      intro s m h
      have := ih _ _ (stepB1 c s m h)
      rw [List.foldl_cons, List.length_cons, show m + (t.length + 1) = m + 1 + t.length by omega]
      exact this
  have stepP1 : ∀ (p : In) (s : St) (m : Nat), (∀ f ∈ s.out, (textL f).length ≤ m) ∧ (textL s.now).length ≤ m → (∀ f ∈ (stepP ifs s p).out, (textL f).length ≤ m + p.t.size) ∧ (textL (stepP ifs s p).now).length ≤ m + p.t.size := by
    intro p s m h
    refine ⟨?_, Nat.le_trans (text_piece ifs s p) (by have := h.2; omega)⟩
    unfold stepP
    split
    · intro f hf
      have := key s m h.1 h.2 f hf
      omega
    · split
      · intro f hf
        have := h.1 f hf
        omega
      · split
        · exact (foldB (L p.t) s m h).1
        · split
          · intro f hf
            have := h.1 f hf
            omega
          · intro f hf
            have := h.1 f hf
            omega
  have foldP : ∀ (l : List In) (s : St) (m : Nat), (∀ f ∈ s.out, (textL f).length ≤ m) ∧ (textL s.now).length ≤ m → (∀ f ∈ (l.foldl (stepP ifs) s).out, (textL f).length ≤ m + szs l) ∧ (textL (l.foldl (stepP ifs) s).now).length ≤ m + szs l := by
    intro l
    induction l with
    | nil => intro s m h; exact h
    | cons p l ih =>
      intro s m h
      have := ih _ _ (stepP1 p s m h)
      have e : szs (p :: l) = p.t.size + szs l := by simp [szs]
      rw [List.foldl_cons, e, show m + (p.t.size + szs l) = m + p.t.size + szs l by omega]
      exact this
  have h := foldP l St0 0 ⟨by simp [St0], by simp [St0, textL]⟩
  intro f hf
  have := key _ _ h.1 h.2 f hf
  omega
end Go.Proofs.Ytlehofcgkmhgaaa
