/-
  GainOrders returns true for every three numbers and every list of numbers: Less is the document's order, with infinite ones, -0 and what is none; Least is the first that no other one stands ahead of. No condition.
-/
import Derived.Test.YtdffeaolooojgaaE12
import Derived.Test.YtdffeaolooojgaaOpenN
import Derived.HandedShaped
namespace Go.Proofs.Ytdffeaolooojgaa
open Go.ChangeShapes Go.WideShapes Go.ChangeAt Go.RowKit

set_option maxRecDepth 100000 in
theorem gainOrders_lifted (os : Os) (started : os.Started) (H : Type) (enc : TypeId × Value → H) :
    ReturnsInHanded {} Try.checked os 3 .any (Rows.gainOrdersSpec.pre6 enc Try.prog Try.f3 Rows.gainOrdersRow.domain false) (Rows.gainOrdersSpec.post enc Try.prog Try.f3 false true false false) := by
  refine returnsInHanded_of_change_shaped (C := Try.checked) Try.own started (by kernel_rfl) Try.func3
    (ChangeSpec.witness6 (enc := enc) (C := Try.checked) false ⟨#[], #[.float .f64 0, .float .f64 0, .float .f64 0, .slice none 0 0], []⟩ 8 (by kernel_rfl) (by kernel_rfl) (by kernel_rfl) (by kernel_rfl)) ?_
  intro W base args ds gs before hval0 hW _ _ hsh _
  have hval : ∀ (j : Nat) t v, Try.f3.params[j]? = some t → args[j]? = some v → Value.okWide Try.prog W .any base t v := hval0
  have hW' := hW
  obtain ⟨p, q, hA0, hV, rfl, _, _⟩ := hW
  have hA : DataW.TrodAll enc Try.prog W 0 (fun _ => true) true Try.f3.params.toList args.toList ds p := hA0
  have hAk := hA
  obtain ⟨rfl, rfl⟩ := trodVars_none hV
  simp only [List.append_nil] at hW'
  have hlt : ∀ x ∈ p, x.block < W.heap.size := fun x hx => by simpa using hW'.lt x hx
  rw [Try.params3] at hA hval
  obtain ⟨v0, vs0, d0, ds0, p0, q0, hargs, rfl, rfl, h0, r0⟩ := trodAll_cons hA
  obtain ⟨v1, vs1, d1, ds1, p1, q1, rfl, rfl, rfl, h1, r1⟩ := trodAll_cons r0
  obtain ⟨v2, vs2, d2, ds2, p2, q2, rfl, rfl, rfl, h2, r2⟩ := trodAll_cons r1
  obtain ⟨v3, vs3, d3, ds3, p3, q3, rfl, rfl, rfl, h3, r3⟩ := trodAll_cons r2
  obtain ⟨rfl, rfl, rfl⟩ := trodAll_nil r3
  obtain rfl : args = #[v0, v1, v2, v3] := by cases args; simp_all
  obtain ⟨x0, rfl, rfl, rfl, wx0⟩ := open_float Try.underlying22 (hval 0 22 v0 rfl rfl) h0
  have b0 : x0 < 18446744073709551616 := by simpa [Lit.wf] using wx0
  obtain ⟨x1, rfl, rfl, rfl, wx1⟩ := open_float Try.underlying22 (hval 1 22 v1 rfl rfl) h1
  have b1 : x1 < 18446744073709551616 := by simpa [Lit.wf] using wx1
  obtain ⟨x2, rfl, rfl, rfl, wx2⟩ := open_float Try.underlying22 (hval 2 22 v2 rfl rfl) h2
  have b2 : x2 < 18446744073709551616 := by simpa [Lit.wf] using wx2
  obtain ⟨a3, n3, c3, rs3, rfl, hE3, hr3⟩ := open_flts Try.underlying23 Try.underlying22 (by kernel_rfl) (hval 3 23 v3 rfl rfl) h3 (fun x hx => hlt x (by simp [hx]))
  clear hA0 hval0
  refine (orders_any x0 x1 x2 a3 n3 c3 rs3 W hE3 hr3 b0 b1 b2).mono fun e W' ⟨he, hb⟩ => ?_
  subst he
  exact ⟨_, rfl, law_post rfl rfl rfl (by kernel_rfl) hW' hAk hb⟩

theorem gainOrders_holds : Rows.GainOrdersSaid :=
  OpenClaim.holds_of_wide 3 Try.f3 rfl rfl rfl rfl rfl rfl rfl ⟨rfl, rfl, rfl, rfl, rfl⟩ rfl rfl rfl rfl rfl (by kernel_rfl) Try.func3 (by kernel_rfl)
    (of_decide_eq_true (by kernel_rfl)) (by unfold Func.isWrapper; first | (rw [if_pos (by decide +kernel)]; kernel_rfl) | (rw [if_neg (by decide +kernel)]; exact ⟨rfl, rfl⟩))
    (fun os started H enc _ => gainOrders_lifted os started H enc)

#print axioms gainOrders_holds
end Go.Proofs.Ytdffeaolooojgaa
