/-
  GainTexts returns true for every two strings: what is text and what is not, one behind the other; told raw no way costs less, but for what is not text. No condition.
-/
import Derived.Test.YtdffeaolooojgaaE15
import Derived.Test.YtdffeaolooojgaaOpenN
import Derived.HandedShaped
namespace Go.Proofs.Ytdffeaolooojgaa
open Go.ChangeShapes Go.WideShapes Go.ChangeAt Go.RowKit

set_option maxRecDepth 100000 in
theorem gainTexts_lifted (os : Os) (started : os.Started) (H : Type) (enc : TypeId × Value → H) :
    ReturnsInHanded {} Try.checked os 5 .any (Rows.gainTextsSpec.pre6 enc Try.prog Try.f5 Rows.gainTextsRow.domain false) (Rows.gainTextsSpec.post enc Try.prog Try.f5 false true false false) := by
  refine returnsInHanded_of_change_shaped (C := Try.checked) Try.own started (by kernel_rfl) Try.func5
    (ChangeSpec.witness6 (enc := enc) (C := Try.checked) false ⟨#[], #[.string ⟨#[]⟩, .string ⟨#[]⟩], []⟩ 8 (by kernel_rfl) (by kernel_rfl) (by kernel_rfl) (by kernel_rfl)) ?_
  intro W base args ds gs before hval0 hW _ hz0 hsh _
  have hval : ∀ (j : Nat) t v, Try.f5.params[j]? = some t → args[j]? = some v → Value.okWide Try.prog W .any base t v := hval0
  have hW' := hW
  obtain ⟨p, q, hA0, hV, rfl, _, _⟩ := hW
  have hA : DataW.TrodAll enc Try.prog W 0 (fun _ => true) true Try.f5.params.toList args.toList ds p := hA0
  have hAk := hA
  obtain ⟨rfl, rfl⟩ := trodVars_none hV
  simp only [List.append_nil] at hW'
  have hlt : ∀ x ∈ p, x.block < W.heap.size := fun x hx => by simpa using hW'.lt x hx
  rw [Try.params5] at hA hval
  obtain ⟨v0, vs0, d0, ds0, p0, q0, hargs, rfl, rfl, h0, r0⟩ := trodAll_cons hA
  obtain ⟨v1, vs1, d1, ds1, p1, q1, rfl, rfl, rfl, h1, r1⟩ := trodAll_cons r0
  obtain ⟨rfl, rfl, rfl⟩ := trodAll_nil r1
  obtain rfl : args = #[v0, v1] := by cases args; simp_all
  have hz : (DataW.weightsEach Try.prog (Try.f5.params.toList ++ Rows.gainTextsSpec.plain.varTypes Try.prog) (_ ++ _)).all (· ≤ reachBytes) = true := hz0
  rw [Try.params5] at hz
  obtain ⟨s0, rfl, rfl, rfl, ws0⟩ := ChangeMaps.open_string Try.underlying9 (hval 0 9 v0 rfl rfl) h0
  obtain ⟨s1, rfl, rfl, rfl, ws1⟩ := ChangeMaps.open_string Try.underlying9 (hval 1 9 v1 rfl rfl) h1
  have z0 : s0.size ≤ 140737488355327 := Nat.le_trans (sized_string (j := 0) hz rfl rfl) (by decide)
  have z1 : s1.size ≤ 140737488355327 := Nat.le_trans (sized_string (j := 1) hz rfl rfl) (by decide)
  clear hA0 hval0
  refine (texts_any s0 s1 W (Nat.le_trans z0 (by decide)) (Nat.le_trans z1 (by decide))).mono fun e W' ⟨he, hb⟩ => ?_
  subst he
  exact ⟨_, rfl, law_post rfl rfl rfl (by kernel_rfl) hW' hAk hb⟩

theorem gainTexts_holds : Rows.GainTextsSaid :=
  OpenClaim.holds_of_wide 5 Try.f5 rfl rfl rfl rfl rfl rfl rfl ⟨rfl, rfl, rfl, rfl, rfl⟩ rfl rfl rfl rfl rfl (by kernel_rfl) Try.func5 (by kernel_rfl)
    (of_decide_eq_true (by kernel_rfl)) (by unfold Func.isWrapper; first | (rw [if_pos (by decide +kernel)]; kernel_rfl) | (rw [if_neg (by decide +kernel)]; exact ⟨rfl, rfl⟩))
    (fun os started H enc _ => gainTexts_lifted os started H enc)

#print axioms gainTexts_holds
end Go.Proofs.Ytdffeaolooojgaa
