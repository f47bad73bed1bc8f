/-
  Calls that came in, whole.
-/
import Derived.Test.YthfnkgofkdahfaaGreatDoorO1
namespace Go.Proofs.YthfnkgofkdahfaaGreatDoor
open Go.ChangeShapes Go.WideShapes Go.ChangeAt Go.RowKit Go.Deep

section
variable {H : Type} {enc : TypeId × Value → H} {W : World}
set_option maxRecDepth 100000 in
theorem open_ops2 {v : Value} {d : DataW H} {p : List MemPlace} {r : Reach} {base : Nat} (hok : Value.okWide Tryz.prog W r base 23 v) (h : DataW.Trod enc Tryz.prog W 0 (fun _ => true) true 23 v d p) (hlt : ∀ x ∈ p, x.block < W.heap.size) :
    ∃ (a : Option Addr) (c : Nat) (ops : List Opd), v = .slice a ops.length c ∧ OpsIn W W.heap.size a ops ∧ ∀ o ∈ ops, o.name.size ≤ Rows.uptoBulk d ∧ o.text.size ≤ Rows.uptoBulk d ∧ (∀ s ∈ o.args, s.size ≤ Rows.uptoBulk d) ∧ (-9223372036854775808 ≤ o.n ∧ o.n ≤ 9223372036854775807) := by
  obtain ⟨a, n, cap, rfl, hc, hm, h0⟩ := open_structs_k Tryz.underlying23 Tryz.underlying34 (by kernel_rfl) (by kernel_rfl) (by decide) hok h hlt
  rcases h0 with rfl | ⟨b, off, rfl, hb, hcell⟩
  · exact ⟨a, cap, [], rfl, ⟨Nat.zero_le _, .inl rfl⟩, fun o ho => by cases ho⟩
  · obtain ⟨l, hl, hq⟩ := list_of (Q := fun i (o : Opd) => (∃ x c, (∀ (j : Nat) u, (OpC o x c)[j]? = some u → W.cell? ⟨b, off + (i * 5 + j), none⟩ = some u) ∧ EA W W.heap.size x c o.args) ∧ o.name.size ≤ Rows.uptoBulk d ∧ o.text.size ≤ Rows.uptoBulk d ∧ (∀ s ∈ o.args, s.size ≤ Rows.uptoBulk d) ∧ (-9223372036854775808 ≤ o.n ∧ o.n ≤ 9223372036854775807)) n fun i hi => by
      obtain ⟨u0, y0, k0, hc0, ht0, _, _⟩ := hcell i hi 0 _ rfl
      obtain ⟨u1, y1, k1, hc1, ht1, hw1, _⟩ := hcell i hi 1 _ rfl
      obtain ⟨u2, y2, k2, hc2, ht2, hw2, _⟩ := hcell i hi 2 _ rfl
      obtain ⟨u3, y3, k3, hc3, ht3, _, _⟩ := hcell i hi 3 _ rfl
      obtain ⟨u4, y4, k4, hc4, ht4, hw4, hp4⟩ := hcell i hi 4 _ rfl
      obtain ⟨q0, hq0, _⟩ := DataW.trod_int Tryz.underlying3 ht0
      obtain ⟨s1, hs1, hy1, _⟩ := DataW.trod_string Tryz.underlying9 ht1
      obtain ⟨s2, hs2, hy2, _⟩ := DataW.trod_string Tryz.underlying9 ht2
      obtain ⟨q3, hq3, hw3⟩ := DataW.trod_int Tryz.underlying3 ht3
      obtain ⟨x4, c4, ss, hs4, hE4, hz4⟩ := strs_in ht4 hp4
      simp at hq0 hs1 hs2 hq3 hs4
      subst hq0 hs1 hs2 hq3 hs4 hy1 hy2
      refine ⟨⟨q0, s1, s2, q3, ss⟩, ⟨x4, c4, fun j u hu => ?_, hE4⟩, ?_, ?_, ?_, ?_⟩
      · match j, hu with
        | 0, hu => cases hu; exact hc0
        | 1, hu => cases hu; exact hc1
        | 2, hu => cases hu; exact hc2
        | 3, hu => cases hu; exact hc3
        | 4, hu => cases hu; exact hc4
      · simp only [Rows.uptoBulk] at hw1
        have h3 : s1.data.toList.length = s1.size := rfl
        show s1.size ≤ _
        omega
      · simp only [Rows.uptoBulk] at hw2
        have h3 : s2.data.toList.length = s2.size := rfl
        show s2.size ≤ _
        omega
      · intro s hs
        have := hz4 s hs
        omega
      · show -9223372036854775808 ≤ q3 ∧ q3 ≤ 9223372036854775807
        simpa [Lit.wf, IntKind.min, IntKind.max, IntKind.signed, IntKind.bits] using hw3.2
    subst hl
    refine ⟨_, cap, l, rfl, ⟨by omega, .inr ⟨b, off, rfl, hb, fun i o ho => (hq i o ho).1⟩⟩, fun o ho => ?_⟩
    obtain ⟨i, hi, e⟩ := List.getElem_of_mem ho
    exact (hq i o (by rw [List.getElem?_eq_getElem hi, e])).2
end
end Go.Proofs.YthfnkgofkdahfaaGreatDoor
