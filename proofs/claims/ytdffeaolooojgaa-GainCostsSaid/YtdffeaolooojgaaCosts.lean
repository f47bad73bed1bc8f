/-
  GainCosts returns true for every string and every list of ways: Text, Cost and Best are the document's. No condition.
-/
import Derived.Test.YtdffeaolooojgaaE13
import Derived.Test.YtdffeaolooojgaaOpenN
import Derived.HandedShaped
namespace Go.Proofs.Ytdffeaolooojgaa
open Go.ChangeShapes Go.WideShapes Go.ChangeAt Go.RowKit

set_option maxRecDepth 100000 in
theorem gainCosts_lifted (os : Os) (started : os.Started) (H : Type) (enc : TypeId × Value → H) :
    ReturnsInHanded {} Try.checked os 4 .any (Rows.gainCostsSpec.pre6 enc Try.prog Try.f4 Rows.gainCostsRow.domain false) (Rows.gainCostsSpec.post enc Try.prog Try.f4 false true false false) := by
  refine returnsInHanded_of_change_shaped (C := Try.checked) Try.own started (by kernel_rfl) Try.func4
    (ChangeSpec.witness6 (enc := enc) (C := Try.checked) false ⟨#[], #[.string ⟨#[]⟩, .slice none 0 0], []⟩ 8 (by kernel_rfl) (by kernel_rfl) (by kernel_rfl) (by kernel_rfl)) ?_
  intro W base args ds gs before hval0 hW _ hz0 hsh _
  have hval : ∀ (j : Nat) t v, Try.f4.params[j]? = some t → args[j]? = some v → Value.okWide Try.prog W .any base t v := hval0
  have hW' := hW
  obtain ⟨p, q, hA0, hV, rfl, _, _⟩ := hW
  have hA : DataW.TrodAll enc Try.prog W 0 (fun _ => true) true Try.f4.params.toList args.toList ds p := hA0
  have hAk := hA
  obtain ⟨rfl, rfl⟩ := trodVars_none hV
  simp only [List.append_nil] at hW'
  have hlt : ∀ x ∈ p, x.block < W.heap.size := fun x hx => by simpa using hW'.lt x hx
  rw [Try.params4] at hA hval
  obtain ⟨v0, vs0, d0, ds0, p0, q0, hargs, rfl, rfl, h0, r0⟩ := trodAll_cons hA
  obtain ⟨v1, vs1, d1, ds1, p1, q1, rfl, rfl, rfl, h1, r1⟩ := trodAll_cons r0
  obtain ⟨rfl, rfl, rfl⟩ := trodAll_nil r1
  obtain rfl : args = #[v0, v1] := by cases args; simp_all
  have hz : (DataW.weightsEach Try.prog (Try.f4.params.toList ++ Rows.gainCostsSpec.plain.varTypes Try.prog) (_ ++ _)).all (· ≤ reachBytes) = true := hz0
  rw [Try.params4] at hz
  obtain ⟨s0, rfl, rfl, rfl, ws0⟩ := ChangeMaps.open_string Try.underlying9 (hval 0 9 v0 rfl rfl) h0
  obtain ⟨a1, n1, c1, ws1, rfl, hE1, hi1, hn1⟩ := open_ints2 Try.underlying29 Try.underlying3 (by kernel_rfl) (hval 1 29 v1 rfl rfl) h1 (fun x hx => hlt x (by simp [hx]))
  have z0 : s0.size ≤ 140737488355327 := Nat.le_trans (sized_string (j := 0) hz rfl rfl) (by decide)
  clear hA0 hval0
  refine (costs_any s0 a1 n1 c1 ws1 W hE1 hn1 (Nat.le_trans z0 (by decide)) hE1.2.1).mono fun e W' ⟨he, hb⟩ => ?_
  subst he
  exact ⟨_, rfl, law_post rfl rfl rfl (by kernel_rfl) hW' hAk hb⟩

theorem gainCosts_holds : Rows.GainCostsSaid :=
  OpenClaim.holds_of_wide 4 Try.f4 rfl rfl rfl rfl rfl rfl rfl ⟨rfl, rfl, rfl, rfl, rfl⟩ rfl rfl rfl rfl rfl (by kernel_rfl) Try.func4 (by kernel_rfl)
    (of_decide_eq_true (by kernel_rfl)) (by unfold Func.isWrapper; first | (rw [if_pos (by decide +kernel)]; kernel_rfl) | (rw [if_neg (by decide +kernel)]; exact ⟨rfl, rfl⟩))
    (fun os started H enc _ => gainCosts_lifted os started H enc)

#print axioms gainCosts_holds
end Go.Proofs.Ytdffeaolooojgaa
